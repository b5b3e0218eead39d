import Derived.Test.YtdiimonfmdbclaaGreatQ06
import Derived.Test.YtdiimonfmdbclaaGreatChecked
import Derived.KernelRfl
/- What functions of the program ask of plain values: printed, and held against the code by the kernel. -/
namespace Go.Proofs.YtdiimonfmdbclaaGreat
open Go.Eng
set_option maxRecDepth 100000
set_option linter.unusedVariables false

/-- ponder/ponderlaw12.AlphaPlays -/
def G_ponderlaw12_AlphaPlays.sh (a0f : Fl) (a0 : List (List PV)) (u0 : Mem) (R : PV → Mem → Prop) : Prop :=
  CallP Tryz.prog 4 [] u0 fun v u =>
  ∃ (x16 : Option Addr), v = (.raw (.pointer x16)) ∧
  CIf (Option.isNone x16)
  (R (pB false) u)
  (CallP Tryz.prog 5 [(.list 21 a0f a0), (pI (60))] u fun v_1 u_1 =>
    ∃ (x20 : Bool), v_1 = (pB x20) ∧
    CIf x20
    (CallP Tryz.prog 6 [] u_1 fun v_2 u_2 =>
      ∃ (x21 : Bool), v_2 = (pB x21) ∧
      R (pB x21) u_2)
    (LoopI (α := (Option Addr × Nat × Nat) × (Fl × List (List PV)) × Int) (fun next s u_3 =>
        CIf (decide ((s.2.2 : Int) < ((List.length a0 : Nat) : Int)))
        ((0 : Int) ≤ s.2.2 ∧ ∃ (r30 : List PV), (a0)[Int.toNat s.2.2]? = some r30 ∧
          ∃ (x31a : Int), ∃ (x31b : Int), ∃ (x31c : Int), ∃ (x31d : Bool), ∃ (x31e : ByteArray), ∃ (x31ff : Fl) (x31f : List (List PV)), ∃ (x31gf : Fl) (x31g : List (List PV)), ∃ (x31h : Bool), ∃ (x31if : Fl) (x31i : List (List PV)), ∃ (x31j : Int), ∃ (x31k : ByteArray), ∃ (x31l : Int), ∃ (x31m : Int), ∃ (x31n : ByteArray), ∃ (x31o : Int), ∃ (x31p : Int), ∃ (x31q : ByteArray), ∃ (x31r : Int), ∃ (x31s : Bool), ∃ (x31t : Bool), ∃ (x31u : Int), rowM r30 0 21 = some [(pI x31a), (pI x31b), (pI x31c), (pB x31d), (pS x31e), (.list 6 x31ff x31f), (.list 6 x31gf x31g), (pB x31h), (.list 7 x31if x31i), (pI x31j), (pS x31k), (pI x31l), (pI x31m), (pS x31n), (pI x31o), (pI x31p), (pS x31q), (pI x31r), (pB x31s), (pB x31t), (pI x31u)] ∧
          CJoin (α := (Option Addr × Nat × Nat) × (Fl × List (List PV))) (fun J =>
            CallP Tryz.prog 7 [(pI x31a), (pI (7))] u_3 fun v_3 u_5 =>
            ∃ (x34 : Int), v_3 = (pI x34) ∧
            CJoin (α := Bool) (fun J_1 =>
              CIf ((x34 : Int) == (0))
              (J_1 ((x34 : Int) == (0)) u_5)
              (J_1 ((x34 : Int) == (1)) u_5))
            (fun s_2 u_6 =>
              CIf s_2
              (CallP Tryz.prog 9 [(.agg [(pI x31c), (pB x31d), (pS x31e), (.list 6 .sh x31f), (.list 6 .sh x31g), (pB x31h), (.list 7 .sh x31i)])] u_6 fun v_4 u_7 =>
                ∃ (x84a : Int), ∃ (x84b : Bool), ∃ (x84c : ByteArray), ∃ (x84df : Fl) (x84d : List (List PV)), ∃ (x84ef : Fl) (x84e : List (List PV)), ∃ (x84f : Bool), ∃ (x84gf : Fl) (x84g : List (List PV)), v_4 = (.agg [(pI x84a), (pB x84b), (pS x84c), (.list 6 x84df x84d), (.list 6 x84ef x84e), (pB x84f), (.list 7 x84gf x84g)]) ∧
                CallP Tryz.prog 8 [(.raw (.slice s.1.1 s.1.2.1 s.1.2.2)), (.agg [(pI x84a), (pB x84b), (pS x84c), (.list 6 .sh x84d), (.list 6 .sh x84e), (pB x84f), (.list 7 .sh x84g)])] u_7 fun v_5 u_8 =>
                ∃ (x85p : Option Addr) (x85pn x85pc : Nat), ∃ (x85q : Int), v_5 = (.tup [(.raw (.slice x85p x85pn x85pc)), (pI x85q)]) ∧
                CallP Tryz.prog 10 [(.raw (.pointer x16)), (.agg [(pI x31c), (pB x31d), (pS x31e), (.list 6 .sh x31f), (.list 6 .sh x31g), (pB x31h), (.list 7 .sh x31i)])] u_8 fun v_6 u_9 =>
                ∃ (x91 : Int), v_6 = (pI x91) ∧
                CIf ((x91 : Int) != x85q)
                (R (pB false) u_9)
                (J ((x85p, x85pn, x85pc), (s.2.1.1, s.2.1.2)) u_9))
              (CIf ((x34 : Int) == (2))
                (CallP Tryz.prog 7 [(pI x31b), (pI (IntKind.wrap .i64 (((s.1.2.1 : Nat) : Int) + (2))))] u_6 fun v_7 u_10 =>
                  ∃ (x101 : Int), v_7 = (pI x101) ∧
                  CJoin (α := Bool) (fun J_2 =>
                    CIf (decide (((IntKind.wrap .i64 (x101 - (1))) : Int) ≥ (0)))
                    (CIf (decide (((IntKind.wrap .i64 (x101 - (1))) : Int) < ((s.1.2.1 : Nat) : Int)))
                      (withSl s.1.1 fun b o =>
                        (0 : Int) ≤ (IntKind.wrap .i64 (x101 - (1))) ∧ (IntKind.wrap .i64 (x101 - (1))) < ((s.1.2.1 : Nat) : Int) ∧
                        ∃ (x116 : Int), rdM u_10 b ((o + Int.toNat (IntKind.wrap .i64 (x101 - (1))) * 8) + 7) 1 = some [(pI x116)] ∧
                        J_2 (decide ((x116 : Int) > (0))) u_10)
                      (J_2 false u_10))
                    (J_2 false u_10))
                  (fun s_3 u_11 =>
                    CallP Tryz.prog 11 [(.raw (.pointer x16)), (pI (IntKind.wrap .i64 (x101 - (1))))] u_11 fun v_8 u_12 =>
                    ∃ (x121 : Bool), v_8 = (pB x121) ∧
                    CIf (!(x121 == s_3))
                    (R (pB false) u_12)
                    (CIf s_3
                      (withSl s.1.1 fun b_1 o_1 =>
                        (0 : Int) ≤ (IntKind.wrap .i64 (x101 - (1))) ∧ (IntKind.wrap .i64 (x101 - (1))) < ((s.1.2.1 : Nat) : Int) ∧
                        ∃ (x129 : Int), rdM u_12 b_1 ((o_1 + Int.toNat (IntKind.wrap .i64 (x101 - (1))) * 8) + 7) 1 = some [(pI x129)] ∧
                        withSl s.1.1 fun b_2 o_2 =>
                        (0 : Int) ≤ (IntKind.wrap .i64 (x101 - (1))) ∧ (IntKind.wrap .i64 (x101 - (1))) < ((s.1.2.1 : Nat) : Int) ∧
                        stM b_2 ((o_2 + Int.toNat (IntKind.wrap .i64 (x101 - (1))) * 8) + 7) [(pI (IntKind.wrap .i64 (x129 - (1))))] u_12 fun u_13 =>
                        J ((s.1.1, s.1.2.1, s.1.2.2), (s.2.1.1, s.2.1.2)) u_13)
                      (J ((s.1.1, s.1.2.1, s.1.2.2), (s.2.1.1, s.2.1.2)) u_12))))
                (CJoin (α := Bool) (fun J_3 =>
                    CIf ((x34 : Int) == (3))
                    (J_3 ((x34 : Int) == (3)) u_6)
                    (CIf ((x34 : Int) == (4))
                      (J_3 ((x34 : Int) == (4)) u_6)
                      (J_3 ((x34 : Int) == (5)) u_6)))
                  (fun s_4 u_14 =>
                    CIf s_4
                    (CallP Tryz.prog 12 [(.raw (.pointer x16)), (.agg [(pI x31j), (pS x31k), (pI x31l), (pI x31m), (pS x31n), (pI x31o), (pI x31p), (pS x31q), (pI x31r), (pB x31s), (pB x31t), (pI x31u)])] u_14 fun v_9 u_15 =>
                      ∃ (x141pf : Fl) (x141p : List (List PV)), ∃ (x141q : Int), v_9 = (.tup [(.list 1 x141pf x141p), (pI x141q)]) ∧
                      CallP Tryz.prog 13 [(.list 12 s.2.1.1 s.2.1.2), (pI x31u)] u_15 fun v_10 u_16 =>
                      ∃ (x148 : Int), v_10 = (pI x148) ∧
                      CIf (decide ((x148 : Int) ≥ (0)))
                      (CIf ((x141q : Int) != (3))
                        (R (pB false) u_16)
                        (CIf (decide ((((List.length x141p : Nat) : Int) : Int) > (0)))
                        (R (pB false) u_16)
                        (next ((s.1.1, s.1.2.1, s.1.2.2), (s.2.1.1, s.2.1.2), (IntKind.wrap .i64 (s.2.2 + (1)))) u_16)))
                      (CIf ((x141q : Int) != (0))
                        (R (pB false) u_16)
                        (CallP Tryz.prog 15 [(.raw (.slice s.1.1 s.1.2.1 s.1.2.2)), (.agg [(pI x31j), (pS x31k), (pI x31l), (pI x31m), (pS x31n), (pI x31o), (pI x31p), (pS x31q), (pI x31r), (pB x31s), (pB x31t), (pI x31u)])] u_16 fun v_11 u_17 =>
                        ∃ (x164f : Fl) (x164 : List (List PV)), v_11 = (.list 1 x164f x164) ∧
                        CallP Tryz.prog 14 [(.list 1 x141pf x141p), (.list 1 x164f x164)] u_17 fun v_12 u_18 =>
                        ∃ (x165 : Bool), v_12 = (pB x165) ∧
                        CIf (!x165)
                        (R (pB false) u_18)
                        (CallP Tryz.prog 16 [(.list 12 s.2.1.1 s.2.1.2), (.agg [(pI x31j), (pS x31k), (pI x31l), (pI x31m), (pS x31n), (pI x31o), (pI x31p), (pS x31q), (pI x31r), (pB x31s), (pB x31t), (pI x31u)])] u_18 fun v_13 u_19 =>
                        ∃ (x171f : Fl) (x171 : List (List PV)), v_13 = (.list 12 x171f x171) ∧
                        J ((s.1.1, s.1.2.1, s.1.2.2), (x171f, x171)) u_19))))
                    (CallP Tryz.prog 13 [(.list 12 s.2.1.1 s.2.1.2), (pI x31b)] u_14 fun v_14 u_20 =>
                      ∃ (x38 : Int), v_14 = (pI x38) ∧
                      CallP Tryz.prog 17 [(.raw (.pointer x16)), (pI x31b)] u_20 fun v_15 u_21 =>
                      ∃ (x43pf : Fl) (x43p : List (List PV)), ∃ (x43q : Int), v_15 = (.tup [(.list 1 x43pf x43p), (pI x43q)]) ∧
                      CIf (decide ((x38 : Int) < (0)))
                      (CIf ((x43q : Int) != (4))
                        (R (pB false) u_21)
                        (CIf (decide ((((List.length x43p : Nat) : Int) : Int) > (0)))
                        (R (pB false) u_21)
                        (next ((s.1.1, s.1.2.1, s.1.2.2), (s.2.1.1, s.2.1.2), (IntKind.wrap .i64 (s.2.2 + (1)))) u_21)))
                      (CIf ((x43q : Int) != (0))
                        (R (pB false) u_21)
                        ((0 : Int) ≤ x38 ∧ ∃ (r62 : List PV), (s.2.1.2)[Int.toNat x38]? = some r62 ∧
                        ∃ (x63a : Int), ∃ (x63b : ByteArray), ∃ (x63c : Int), ∃ (x63d : Int), ∃ (x63e : ByteArray), ∃ (x63f : Int), ∃ (x63g : Int), ∃ (x63h : ByteArray), ∃ (x63i : Int), ∃ (x63j : Bool), ∃ (x63k : Bool), ∃ (x63l : Int), rowM r62 0 12 = some [(pI x63a), (pS x63b), (pI x63c), (pI x63d), (pS x63e), (pI x63f), (pI x63g), (pS x63h), (pI x63i), (pB x63j), (pB x63k), (pI x63l)] ∧
                        CallP Tryz.prog 15 [(.raw (.slice s.1.1 s.1.2.1 s.1.2.2)), (.agg [(pI x63a), (pS x63b), (pI x63c), (pI x63d), (pS x63e), (pI x63f), (pI x63g), (pS x63h), (pI x63i), (pB x63j), (pB x63k), (pI x63l)])] u_21 fun v_16 u_22 =>
                        ∃ (x64f : Fl) (x64 : List (List PV)), v_16 = (.list 1 x64f x64) ∧
                        CallP Tryz.prog 14 [(.list 1 x43pf x43p), (.list 1 x64f x64)] u_22 fun v_17 u_23 =>
                        ∃ (x65 : Bool), v_17 = (pB x65) ∧
                        CIf (!x65)
                        (R (pB false) u_23)
                        ((0 : Int) ≤ (0 : Int) ∧ (0 : Int) ≤ x38 ∧ x38 ≤ ((List.length s.2.1.2 : Nat) : Int) ∧ 
                        (0 : Int) ≤ (IntKind.wrap .i64 (x38 + (1))) ∧ (IntKind.wrap .i64 (x38 + (1))) ≤ ((List.length s.2.1.2 : Nat) : Int) ∧ ((List.length s.2.1.2 : Nat) : Int) ≤ ((List.length s.2.1.2 : Nat) : Int) ∧ 
                        appL false 12 112 .nil [] (List.drop (Int.toNat (0 : Int)) (List.take (Int.toNat x38) s.2.1.2)) u_23 fun f71 u_24 =>
                        appL false 12 112 f71 ([] ++ (List.drop (Int.toNat (0 : Int)) (List.take (Int.toNat x38) s.2.1.2))) (List.drop (Int.toNat (IntKind.wrap .i64 (x38 + (1)))) (List.take (Int.toNat ((List.length s.2.1.2 : Nat) : Int)) s.2.1.2)) u_24 fun f76 u_25 =>
                        J ((s.1.1, s.1.2.1, s.1.2.2), (f76, (([] ++ (List.drop (Int.toNat (0 : Int)) (List.take (Int.toNat x38) s.2.1.2))) ++ (List.drop (Int.toNat (IntKind.wrap .i64 (x38 + (1)))) (List.take (Int.toNat ((List.length s.2.1.2 : Nat) : Int)) s.2.1.2))))) u_25)))))))))
          (fun s_1 u_4 =>
            CallP Tryz.prog 18 [(.raw (.pointer x16)), (.raw (.slice s_1.1.1 s_1.1.2.1 s_1.1.2.2)), (.list 12 s_1.2.1 s_1.2.2)] u_4 fun v_18 u_26 =>
            ∃ (x175 : Bool), v_18 = (pB x175) ∧
            CIf (!x175)
            (R (pB false) u_26)
            (next ((s_1.1.1, s_1.1.2.1, s_1.1.2.2), (s_1.2.1, s_1.2.2), (IntKind.wrap .i64 (s.2.2 + (1)))) u_26)))
        (CallP Tryz.prog 6 [] u_3 fun v_19 u_27 =>
          ∃ (x177 : Bool), v_19 = (pB x177) ∧
          R (pB x177) u_27))
      ((none, 0, 0), (.nil, []), (0)) u_1))

theorem G_ponderlaw12_AlphaPlays.ok (a0f : Fl) (a0 : List (List PV)) (u0 : Mem) (R : PV → Mem → Prop) : G_ponderlaw12_AlphaPlays.sh a0f a0 u0 R = VF ⟨Tryz.prog, 178, [7], [(9, ⟨[(4, .one (.raw .slice)), (5, .one (.list 12)), (6, .one (.raw (.int .i64)))], []⟩)], [(23, ⟨[(77, .one (.raw .bool))], []⟩), (30, ⟨[(10, .one (.raw .bool))], []⟩), (37, ⟨[(133, .one (.raw .bool))], []⟩), (44, ⟨[(4, .one (.raw .slice)), (5, .one (.list 12))], []⟩)], [], [], [], [4, 59, 80, 81, 85, 86, 98, 107, 112, 125, 161, 173]⟩ ((Tryz.f3.body).getD .skip) [.tmp 2] [(.list 21 a0f a0)] u0 R := by kernel_rfl

theorem G_ponderlaw12_AlphaPlays.c {a0f : Fl} {a0 : List (List PV)} {u0 : Mem} {K : PV → Mem → Prop} (h : G_ponderlaw12_AlphaPlays.sh a0f a0 u0 K) : CallP Tryz.prog 3 [(.list 21 a0f a0)] u0 K :=
  VF_sound (E := ⟨Tryz.prog, 178, [7], [(9, ⟨[(4, .one (.raw .slice)), (5, .one (.list 12)), (6, .one (.raw (.int .i64)))], []⟩)], [(23, ⟨[(77, .one (.raw .bool))], []⟩), (30, ⟨[(10, .one (.raw .bool))], []⟩), (37, ⟨[(133, .one (.raw .bool))], []⟩), (44, ⟨[(4, .one (.raw .slice)), (5, .one (.list 12))], []⟩)], [], [], [], [4, 59, 80, 81, 85, 86, 98, 107, 112, 125, 161, 173]⟩) (rs := [.tmp 2]) Tryz.func3 rfl rfl rfl (by kernel_rfl) (by kernel_rfl) (G_ponderlaw12_AlphaPlays.ok a0f a0 u0 K ▸ h)


/-- ponder/alpha.New -/
def G_alpha_New.sh  (u0 : Mem) (R : PV → Mem → Prop) : Prop :=
  CallP Tryz.prog 19 [] u0 fun v u =>
  ∃ (x1 : Option Addr), v = (.raw (.pointer x1)) ∧
  CallP Tryz.prog 20 [] u fun v_1 u_1 =>
  ∃ (x2 : Option Addr), v_1 = (.raw (.pointer x2)) ∧
  ∀ (b4 : Nat), u_1 b4 = none →
  R (pP b4 0) (Mem.set u_1 b4 (some (.cells 67 [(.raw (.pointer x1)), (.raw (.pointer x2))])))

theorem G_alpha_New.ok  (u0 : Mem) (R : PV → Mem → Prop) : G_alpha_New.sh  u0 R = VF ⟨Tryz.prog, 5, [], [], [], [], [], [], []⟩ ((Tryz.f4.body).getD .skip) [.tmp 0] [] u0 R := by kernel_rfl

theorem G_alpha_New.c  {u0 : Mem} {K : PV → Mem → Prop} (h : G_alpha_New.sh  u0 K) : CallP Tryz.prog 4 [] u0 K :=
  VF_sound (E := ⟨Tryz.prog, 5, [], [], [], [], [], [], []⟩) (rs := [.tmp 0]) Tryz.func4 rfl rfl rfl (by kernel_rfl) (by kernel_rfl) (G_alpha_New.ok  u0 K ▸ h)


/-- ponder/ponderlaw12.heavy -/
def G_ponderlaw12_heavy.sh (a0f : Fl) (a0 : List (List PV)) (a1 : Int) (u0 : Mem) (R : PV → Mem → Prop) : Prop :=
  CIf (decide ((((List.length a0 : Nat) : Int) : Int) > a1))
  (R (pB true) u0)
  (LoopI (α := Int) (fun next s u =>
      CIf (decide ((s : Int) < ((List.length a0 : Nat) : Int)))
      ((0 : Int) ≤ s ∧ ∃ (r18 : List PV), (a0)[Int.toNat s]? = some r18 ∧
        ∃ (x20a : Int), ∃ (x20b : Bool), ∃ (x20c : ByteArray), ∃ (x20df : Fl) (x20d : List (List PV)), ∃ (x20ef : Fl) (x20e : List (List PV)), ∃ (x20f : Bool), ∃ (x20gf : Fl) (x20g : List (List PV)), rowM r18 2 7 = some [(pI x20a), (pB x20b), (pS x20c), (.list 6 x20df x20d), (.list 6 x20ef x20e), (pB x20f), (.list 7 x20gf x20g)] ∧
        CallP Tryz.prog 21 [(.list 7 .nr [[(pI x20a), (pB x20b), (pS x20c), (.list 6 .sh x20d), (.list 6 .sh x20e), (pB x20f), (.list 7 .sh x20g)]]), (pI (20)), (pI (0))] u fun v u_1 =>
        ∃ (x22 : Int), v = (pI x22) ∧
        CIf (decide ((x22 : Int) > (20)))
        (R (pB true) u_1)
        ((0 : Int) ≤ s ∧ ∃ (r27 : List PV), (a0)[Int.toNat s]? = some r27 ∧
          ∃ (x29a : Int), ∃ (x29b : Bool), ∃ (x29c : ByteArray), ∃ (x29df : Fl) (x29d : List (List PV)), ∃ (x29ef : Fl) (x29e : List (List PV)), ∃ (x29f : Bool), ∃ (x29gf : Fl) (x29g : List (List PV)), rowM r27 2 7 = some [(pI x29a), (pB x29b), (pS x29c), (.list 6 x29df x29d), (.list 6 x29ef x29e), (pB x29f), (.list 7 x29gf x29g)] ∧
          CallP Tryz.prog 22 [(.list 7 .nr [[(pI x29a), (pB x29b), (pS x29c), (.list 6 .sh x29d), (.list 6 .sh x29e), (pB x29f), (.list 7 .sh x29g)]])] u_1 fun v_1 u_2 =>
          ∃ (x31 : Bool), v_1 = (pB x31) ∧
          CIf x31
          (R (pB true) u_2)
          ((0 : Int) ≤ s ∧ ∃ (r36 : List PV), (a0)[Int.toNat s]? = some r36 ∧
            ∃ (x38a : Int), ∃ (x38b : ByteArray), ∃ (x38c : Int), ∃ (x38d : Int), ∃ (x38e : ByteArray), ∃ (x38f : Int), ∃ (x38g : Int), ∃ (x38h : ByteArray), ∃ (x38i : Int), ∃ (x38j : Bool), ∃ (x38k : Bool), ∃ (x38l : Int), rowM r36 9 12 = some [(pI x38a), (pS x38b), (pI x38c), (pI x38d), (pS x38e), (pI x38f), (pI x38g), (pS x38h), (pI x38i), (pB x38j), (pB x38k), (pI x38l)] ∧
            CallP Tryz.prog 23 [(.list 12 .nr [[(pI x38a), (pS x38b), (pI x38c), (pI x38d), (pS x38e), (pI x38f), (pI x38g), (pS x38h), (pI x38i), (pB x38j), (pB x38k), (pI x38l)]]), (pI (1))] u_2 fun v_2 u_3 =>
            ∃ (x40 : Bool), v_2 = (pB x40) ∧
            CIf (!x40)
            (R (pB true) u_3)
            (next (IntKind.wrap .i64 (s + (1))) u_3))))
      (R (pB false) u))
    (0) u0)

theorem G_ponderlaw12_heavy.ok (a0f : Fl) (a0 : List (List PV)) (a1 : Int) (u0 : Mem) (R : PV → Mem → Prop) : G_ponderlaw12_heavy.sh a0f a0 a1 u0 R = VF ⟨Tryz.prog, 43, [], [(4, ⟨[(5, .one (.raw (.int .i64)))], []⟩)], [], [], [], [], []⟩ ((Tryz.f5.body).getD .skip) [.tmp 4] [(.list 21 a0f a0), (pI a1)] u0 R := by kernel_rfl

theorem G_ponderlaw12_heavy.c {a0f : Fl} {a0 : List (List PV)} {a1 : Int} {u0 : Mem} {K : PV → Mem → Prop} (h : G_ponderlaw12_heavy.sh a0f a0 a1 u0 K) : CallP Tryz.prog 5 [(.list 21 a0f a0), (pI a1)] u0 K :=
  VF_sound (E := ⟨Tryz.prog, 43, [], [(4, ⟨[(5, .one (.raw (.int .i64)))], []⟩)], [], [], [], [], []⟩) (rs := [.tmp 4]) Tryz.func5 rfl rfl rfl (by kernel_rfl) (by kernel_rfl) (G_ponderlaw12_heavy.ok a0f a0 a1 u0 K ▸ h)


/-- ponder/ponderlaw12.wakes -/
def G_ponderlaw12_wakes.sh  (u0 : Mem) (R : PV → Mem → Prop) : Prop :=
  CallP Tryz.prog 4 [] u0 fun v u =>
  ∃ (x5 : Option Addr), v = (.raw (.pointer x5)) ∧
  CIf (Option.isNone x5)
  (R (pB false) u)
  (CallP Tryz.prog 24 [(pS ⟨#[120]⟩)] u fun v_1 u_1 =>
    ∃ (x8a : Int), ∃ (x8b : ByteArray), ∃ (x8c : Int), v_1 = (.agg [(pI x8a), (pS x8b), (pI x8c)]) ∧
    CallP Tryz.prog 25 [(pI (5))] u_1 fun v_2 u_2 =>
    ∃ (x11a : Int), ∃ (x11b : ByteArray), ∃ (x11c : Int), v_2 = (.agg [(pI x11a), (pS x11b), (pI x11c)]) ∧
    CallP Tryz.prog 10 [(.raw (.pointer x5)), (.agg [(pI (1)), (pB false), (pS ⟨#[97]⟩), (.list 6 .sh [[(pI (1)), (pS ⟨#[]⟩), (pI x8a), (pS x8b), (pI x8c), (.list 3 .sh [])]]), (.list 6 .sh [[(pI (1)), (pS ⟨#[]⟩), (pI x11a), (pS x11b), (pI x11c), (.list 3 .sh [])]]), (pB false), (.list 7 .sh [])])] u_2 fun v_3 u_3 =>
    ∃ (x17 : Int), v_3 = (pI x17) ∧
    CallP Tryz.prog 10 [(.raw (.pointer x5)), (.agg [(pI (1)), (pB false), (pS ⟨#[98]⟩), (.list 6 .sh [[(pI (1)), (pS ⟨#[]⟩), (pI x8a), (pS x8b), (pI x8c), (.list 3 .sh [])]]), (.list 6 .sh [[(pI (1)), (pS ⟨#[]⟩), (pI x11a), (pS x11b), (pI x11c), (.list 3 .sh [])]]), (pB false), (.list 7 .sh [])])] u_3 fun v_4 u_4 =>
    ∃ (x21 : Int), v_4 = (pI x21) ∧
    CIf ((x17 : Int) == (0))
    (CIf ((x21 : Int) == (0))
      (CallP Tryz.prog 26 [(.raw (.pointer x5))] u_4 fun v_5 u_5 =>
        ∃ (x30 : Int), v_5 = (pI x30) ∧
        CIf ((x30 : Int) == (1))
        (CallP Tryz.prog 27 [(.raw (.pointer x5)), (pI (0))] u_5 fun v_6 u_6 =>
          ∃ (x35 : Int), v_6 = (pI x35) ∧
          R (pB ((x35 : Int) == (2))) u_6)
        (R (pB false) u_5))
      (R (pB false) u_4))
    (R (pB false) u_4))

theorem G_ponderlaw12_wakes.ok  (u0 : Mem) (R : PV → Mem → Prop) : G_ponderlaw12_wakes.sh  u0 R = VF ⟨Tryz.prog, 38, [2], [], [], [], [], [], []⟩ ((Tryz.f6.body).getD .skip) [.tmp 0] [] u0 R := by kernel_rfl

theorem G_ponderlaw12_wakes.c  {u0 : Mem} {K : PV → Mem → Prop} (h : G_ponderlaw12_wakes.sh  u0 K) : CallP Tryz.prog 6 [] u0 K :=
  VF_sound (E := ⟨Tryz.prog, 38, [2], [], [], [], [], [], []⟩) (rs := [.tmp 0]) Tryz.func6 rfl rfl rfl (by kernel_rfl) (by kernel_rfl) (G_ponderlaw12_wakes.ok  u0 K ▸ h)


/-- ponder/ponderkeep.Within -/
def G_ponderkeep_Within.sh (a0 : Int) (a1 : Int) (u0 : Mem) (R : PV → Mem → Prop) : Prop :=
  CIf (decide ((a1 : Int) < (1)))
  (R (pI (0)) u0)
  ((a1 : Int) ≠ 0 ∧
    CIf (decide (((Int.tmod a0 a1) : Int) < (0)))
    (R (pI (IntKind.wrap .i64 ((Int.tmod a0 a1) + a1))) u0)
    (R (pI (Int.tmod a0 a1)) u0))

theorem G_ponderkeep_Within.ok (a0 : Int) (a1 : Int) (u0 : Mem) (R : PV → Mem → Prop) : G_ponderkeep_Within.sh a0 a1 u0 R = VF ⟨Tryz.prog, 17, [], [], [], [], [], [], []⟩ ((Tryz.f7.body).getD .skip) [.tmp 4] [(pI a0), (pI a1)] u0 R := by kernel_rfl

theorem G_ponderkeep_Within.c {a0 : Int} {a1 : Int} {u0 : Mem} {K : PV → Mem → Prop} (h : G_ponderkeep_Within.sh a0 a1 u0 K) : CallP Tryz.prog 7 [(pI a0), (pI a1)] u0 K :=
  VF_sound (E := ⟨Tryz.prog, 17, [], [], [], [], [], [], []⟩) (rs := [.tmp 4]) Tryz.func7 rfl rfl rfl (by kernel_rfl) (by kernel_rfl) (G_ponderkeep_Within.ok a0 a1 u0 K ▸ h)


/-- ponder/ponderlaw12.want -/
def G_ponderlaw12_want.sh (a0 : Option Addr) (a0n a0c : Nat) (a1a : Int) (a1b : Bool) (a1c : ByteArray) (a1df : Fl) (a1d : List (List PV)) (a1ef : Fl) (a1e : List (List PV)) (a1f : Bool) (a1gf : Fl) (a1g : List (List PV)) (u0 : Mem) (R : PV → Mem → Prop) : Prop :=
  LoopI (α := Int) (fun next s u =>
    CIf (decide ((s : Int) < ((a0n : Nat) : Int)))
    (withSl a0 fun b o =>
      (0 : Int) ≤ s ∧ s < ((a0n : Nat) : Int) ∧
      ∃ (x18 : Int), rdM u b ((o + Int.toNat s * 8) + 7) 1 = some [(pI x18)] ∧
      CIf (decide ((x18 : Int) > (0)))
      (withSl a0 fun b_1 o_1 =>
        (0 : Int) ≤ s ∧ s < ((a0n : Nat) : Int) ∧
        ∃ (x25a : Int), ∃ (x25b : Bool), ∃ (x25c : ByteArray), ∃ (x25df : Fl) (x25d : List (List PV)), ∃ (x25ef : Fl) (x25e : List (List PV)), ∃ (x25f : Bool), ∃ (x25gf : Fl) (x25g : List (List PV)), rdM u b_1 (o_1 + Int.toNat s * 8) 7 = some [(pI x25a), (pB x25b), (pS x25c), (.list 6 x25df x25d), (.list 6 x25ef x25e), (pB x25f), (.list 7 x25gf x25g)] ∧
        CallP Tryz.prog 28 [(.agg [(pI x25a), (pB x25b), (pS x25c), (.list 6 .sh x25d), (.list 6 .sh x25e), (pB x25f), (.list 7 .sh x25g)]), (.agg [(pI a1a), (pB a1b), (pS a1c), (.list 6 .sh a1d), (.list 6 .sh a1e), (pB a1f), (.list 7 .sh a1g)])] u fun v u_1 =>
        ∃ (x27 : Bool), v = (pB x27) ∧
        CIf x27
        (withSl a0 fun b_2 o_2 =>
          (0 : Int) ≤ s ∧ s < ((a0n : Nat) : Int) ∧
          ∃ (x33 : Int), rdM u_1 b_2 ((o_2 + Int.toNat s * 8) + 7) 1 = some [(pI x33)] ∧
          withSl a0 fun b_3 o_3 =>
          (0 : Int) ≤ s ∧ s < ((a0n : Nat) : Int) ∧
          stM b_3 ((o_3 + Int.toNat s * 8) + 7) [(pI (IntKind.wrap .i64 (x33 + (1))))] u_1 fun u_2 =>
          R (.tup [(.raw (.slice a0 a0n a0c)), (pI s)]) u_2)
        (next (IntKind.wrap .i64 (s + (1))) u_1))
      (next (IntKind.wrap .i64 (s + (1))) u))
    (LoopI (α := Int) (fun next_1 s_1 u_3 =>
        CIf (decide ((s_1 : Int) < ((a0n : Nat) : Int)))
        (withSl a0 fun b_4 o_4 =>
          (0 : Int) ≤ s_1 ∧ s_1 < ((a0n : Nat) : Int) ∧
          ∃ (x49 : Int), rdM u_3 b_4 ((o_4 + Int.toNat s_1 * 8) + 7) 1 = some [(pI x49)] ∧
          CIf ((x49 : Int) == (0))
          (withSl a0 fun b_5 o_5 =>
            (0 : Int) ≤ s_1 ∧ s_1 < ((a0n : Nat) : Int) ∧
            stM b_5 (o_5 + Int.toNat s_1 * 8) [(pI a1a), (pB a1b), (pS a1c), (.list 6 a1df a1d), (.list 6 a1ef a1e), (pB a1f), (.list 7 a1gf a1g), (pI (1))] u_3 fun u_4 =>
            R (.tup [(.raw (.slice a0 a0n a0c)), (pI s_1)]) u_4)
          (next_1 (IntKind.wrap .i64 (s_1 + (1))) u_3))
        (appR 8 120 45 a0 a0n a0c (.list 8 .nr [[(pI a1a), (pB a1b), (pS a1c), (.list 6 .sh a1d), (.list 6 .sh a1e), (pB a1f), (.list 7 .sh a1g), (pI (1))]]) u_3 fun s62 s62n s62c u_5 =>
          R (.tup [(.raw (.slice s62 s62n s62c)), (pI ((a0n : Nat) : Int))]) u_5))
      (0) u))
  (0) u0

theorem G_ponderlaw12_want.ok (a0 : Option Addr) (a0n a0c : Nat) (a1a : Int) (a1b : Bool) (a1c : ByteArray) (a1df : Fl) (a1d : List (List PV)) (a1ef : Fl) (a1e : List (List PV)) (a1f : Bool) (a1gf : Fl) (a1g : List (List PV)) (u0 : Mem) (R : PV → Mem → Prop) : G_ponderlaw12_want.sh a0 a0n a0c a1a a1b a1c a1df a1d a1ef a1e a1f a1gf a1g u0 R = VF ⟨Tryz.prog, 65, [3], [(2, ⟨[(6, .one (.raw (.int .i64)))], []⟩), (8, ⟨[(7, .one (.raw (.int .i64)))], []⟩)], [], [], [], [], [0, 4, 9, 14, 21, 29, 37, 40, 45, 51, 56, 58, 61, 62, 63]⟩ ((Tryz.f8.body).getD .skip) [.tmp 4, .tmp 5] [(.raw (.slice a0 a0n a0c)), (.agg [(pI a1a), (pB a1b), (pS a1c), (.list 6 a1df a1d), (.list 6 a1ef a1e), (pB a1f), (.list 7 a1gf a1g)])] u0 R := by kernel_rfl

theorem G_ponderlaw12_want.c {a0 : Option Addr} {a0n a0c : Nat} {a1a : Int} {a1b : Bool} {a1c : ByteArray} {a1df : Fl} {a1d : List (List PV)} {a1ef : Fl} {a1e : List (List PV)} {a1f : Bool} {a1gf : Fl} {a1g : List (List PV)} {u0 : Mem} {K : PV → Mem → Prop} (h : G_ponderlaw12_want.sh a0 a0n a0c a1a a1b a1c a1df a1d a1ef a1e a1f a1gf a1g u0 K) : CallP Tryz.prog 8 [(.raw (.slice a0 a0n a0c)), (.agg [(pI a1a), (pB a1b), (pS a1c), (.list 6 a1df a1d), (.list 6 a1ef a1e), (pB a1f), (.list 7 a1gf a1g)])] u0 K :=
  VF_sound (E := ⟨Tryz.prog, 65, [3], [(2, ⟨[(6, .one (.raw (.int .i64)))], []⟩), (8, ⟨[(7, .one (.raw (.int .i64)))], []⟩)], [], [], [], [], [0, 4, 9, 14, 21, 29, 37, 40, 45, 51, 56, 58, 61, 62, 63]⟩) (rs := [.tmp 4, .tmp 5]) Tryz.func8 rfl rfl rfl (by kernel_rfl) (by kernel_rfl) (G_ponderlaw12_want.ok a0 a0n a0c a1a a1b a1c a1df a1d a1ef a1e a1f a1gf a1g u0 K ▸ h)


/-- ponder/ponderref10.Bare -/
def G_ponderref10_Bare.sh (a0a : Int) (a0b : Bool) (a0c : ByteArray) (a0df : Fl) (a0d : List (List PV)) (a0ef : Fl) (a0e : List (List PV)) (a0f : Bool) (a0gf : Fl) (a0g : List (List PV)) (u0 : Mem) (R : PV → Mem → Prop) : Prop :=
  CallQ Tryz.prog 29 [(.list 6 a0df a0d)] u0 fun v u =>
  ∃ (x9f : Fl) (x9 : List (List PV)), v = (.list 6 x9f x9) ∧
  CallQ Tryz.prog 29 [(.list 6 a0ef a0e)] (Mem.or u0 u) fun v_1 u_1 =>
  ∃ (x12f : Fl) (x12 : List (List PV)), v_1 = (.list 6 x12f x12) ∧
  R (.agg [(pI (1)), (pB a0b), (pS ⟨#[]⟩), (.list 6 x9f x9), (.list 6 x12f x12), (pB a0f), (.list 7 .nil [])]) (Mem.or (Mem.or u0 u) u_1)

theorem G_ponderref10_Bare.ok (a0a : Int) (a0b : Bool) (a0c : ByteArray) (a0df : Fl) (a0d : List (List PV)) (a0ef : Fl) (a0e : List (List PV)) (a0f : Bool) (a0gf : Fl) (a0g : List (List PV)) (u0 : Mem) (R : PV → Mem → Prop) : G_ponderref10_Bare.sh a0a a0b a0c a0df a0d a0ef a0e a0f a0gf a0g u0 R = VF ⟨Tryz.prog, 14, [1, 2], [], [], [], [], [], []⟩ ((Tryz.f9.body).getD .skip) [.cell 2 32] [(.agg [(pI a0a), (pB a0b), (pS a0c), (.list 6 a0df a0d), (.list 6 a0ef a0e), (pB a0f), (.list 7 a0gf a0g)])] u0 R := by kernel_rfl

theorem G_ponderref10_Bare.c {a0a : Int} {a0b : Bool} {a0c : ByteArray} {a0df : Fl} {a0d : List (List PV)} {a0ef : Fl} {a0e : List (List PV)} {a0f : Bool} {a0gf : Fl} {a0g : List (List PV)} {u0 : Mem} {K : PV → Mem → Prop} (h : G_ponderref10_Bare.sh a0a a0b a0c a0df a0d a0ef a0e a0f a0gf a0g u0 K) : CallP Tryz.prog 9 [(.agg [(pI a0a), (pB a0b), (pS a0c), (.list 6 a0df a0d), (.list 6 a0ef a0e), (pB a0f), (.list 7 a0gf a0g)])] u0 K :=
  VF_sound (E := ⟨Tryz.prog, 14, [1, 2], [], [], [], [], [], []⟩) (rs := [.cell 2 32]) Tryz.func9 rfl rfl rfl (by kernel_rfl) (by kernel_rfl) (G_ponderref10_Bare.ok a0a a0b a0c a0df a0d a0ef a0e a0f a0gf a0g u0 K ▸ h)


/-- (*ponder/alpha.Net).Want -/
def G_alpha_Net_Want.sh (a0 : Option Addr) (a1a : Int) (a1b : Bool) (a1c : ByteArray) (a1df : Fl) (a1d : List (List PV)) (a1ef : Fl) (a1e : List (List PV)) (a1f : Bool) (a1gf : Fl) (a1g : List (List PV)) (u0 : Mem) (R : PV → Mem → Prop) : Prop :=
  ∀ (b2 : Nat), u0 b2 = none →
  ∀ (b3 : Nat), (Mem.set u0 b2 (some (.cells 23 [(.raw (.pointer a0))]))) b3 = none →
  ∀ (b4 : Nat), (Mem.set (Mem.set u0 b2 (some (.cells 23 [(.raw (.pointer a0))]))) b3 (some (.cells 32 [(pI a1a), (pB a1b), (pS a1c), (.list 6 a1df a1d), (.list 6 a1ef a1e), (pB a1f), (.list 7 a1gf a1g)]))) b4 = none →
  ∃ (x11a : Int), ∃ (x11b : Bool), ∃ (x11c : ByteArray), ∃ (x11df : Fl) (x11d : List (List PV)), ∃ (x11ef : Fl) (x11e : List (List PV)), ∃ (x11f : Bool), ∃ (x11gf : Fl) (x11g : List (List PV)), rdM (Mem.set (Mem.set (Mem.set u0 b2 (some (.cells 23 [(.raw (.pointer a0))]))) b3 (some (.cells 32 [(pI a1a), (pB a1b), (pS a1c), (.list 6 a1df a1d), (.list 6 a1ef a1e), (pB a1f), (.list 7 a1gf a1g)]))) b4 (some (.cells 3 [(pI (0))]))) b3 0 7 = some [(pI x11a), (pB x11b), (pS x11c), (.list 6 x11df x11d), (.list 6 x11ef x11e), (pB x11f), (.list 7 x11gf x11g)] ∧
  CallP Tryz.prog 30 [(.agg [(pI x11a), (pB x11b), (pS x11c), (.list 6 .sh x11d), (.list 6 .sh x11e), (pB x11f), (.list 7 .sh x11g)])] (Mem.set (Mem.set (Mem.set u0 b2 (some (.cells 23 [(.raw (.pointer a0))]))) b3 (some (.cells 32 [(pI a1a), (pB a1b), (pS a1c), (.list 6 a1df a1d), (.list 6 a1ef a1e), (pB a1f), (.list 7 a1gf a1g)]))) b4 (some (.cells 3 [(pI (0))]))) fun v u =>
  ∃ (x12a : Int), ∃ (x12b : Bool), ∃ (x12c : ByteArray), ∃ (x12df : Fl) (x12d : List (List PV)), ∃ (x12ef : Fl) (x12e : List (List PV)), ∃ (x12f : Bool), ∃ (x12gf : Fl) (x12g : List (List PV)), v = (.agg [(pI x12a), (pB x12b), (pS x12c), (.list 6 x12df x12d), (.list 6 x12ef x12e), (pB x12f), (.list 7 x12gf x12g)]) ∧
  stM b3 0 [(pI x12a), (pB x12b), (pS x12c), (.list 6 x12df x12d), (.list 6 x12ef x12e), (pB x12f), (.list 7 x12gf x12g)] u fun u_1 =>
  ∀ (b5 : Nat), u_1 b5 = none →
  stM b5 0 [(pI (0))] (Mem.set u_1 b5 (some (.cells 60 [(pI (0))]))) fun u_2 =>
  ∃ (x13 : Option Addr), rdM u_2 b2 0 1 = some [(.raw (.pointer x13))] ∧
  nn x13
  (withPtrP (.raw (.pointer x13)) fun b o =>
    ∃ (x16 : Option Addr), rdM u_2 b (o + 1) 1 = some [(.raw (.pointer x16))] ∧
    CallP Tryz.prog 31 [(.raw (.pointer x16))] u_2 fun v_1 u_3 =>
    ∃ (x17 : Fn) (x17a x17b : List PV), v_1 = (.fn x17 x17a x17b) ∧
    RangeP Tryz.prog (.fn x17 x17a x17b) (fun vs RR u_4 =>
      ∃ (x18 : Int), ∃ (x19a : Int), ∃ (x19b : Bool), ∃ (x19c : ByteArray), ∃ (x19df : Fl) (x19d : List (List PV)), ∃ (x19ef : Fl) (x19e : List (List PV)), ∃ (x19f : Bool), ∃ (x19gf : Fl) (x19g : List (List PV)), ∃ (x19h : Int), ∃ (x19i : Option Addr), vs = [(pI x18), (.agg [(pI x19a), (pB x19b), (pS x19c), (.list 6 x19df x19d), (.list 6 x19ef x19e), (pB x19f), (.list 7 x19gf x19g), (pI x19h), (.raw (.pointer x19i))])] ∧
      CJoin (α := Unit) (fun J =>
        ∃ (x24 : Bool), rdM u_4 b3 1 1 = some [(pB x24)] ∧
        CIf (x19b == x24)
        (∃ (x31 : Bool), rdM u_4 b3 5 1 = some [(pB x31)] ∧
          CIf (x19f == x31)
          (∃ (x39f : Fl) (x39 : List (List PV)), rdM u_4 b3 3 1 = some [(.list 6 x39f x39)] ∧
            CallP Tryz.prog 32 [(.list 6 x19df x19d), (.list 6 x39f x39)] u_4 fun v_2 u_7 =>
            ∃ (x40 : Bool), v_2 = (pB x40) ∧
            CIf x40
            (∃ (x47f : Fl) (x47 : List (List PV)), rdM u_7 b3 4 1 = some [(.list 6 x47f x47)] ∧
              CallP Tryz.prog 32 [(.list 6 x19ef x19e), (.list 6 x47f x47)] u_7 fun v_3 u_8 =>
              ∃ (x48 : Bool), v_3 = (pB x48) ∧
              CIf x48
              (∃ (x54 : Option Addr), rdM u_8 b2 0 1 = some [(.raw (.pointer x54))] ∧
                nn x54
                (withPtrP (.raw (.pointer x54)) fun b_1 o_1 =>
                  ∃ (x57 : Option Addr), rdM u_8 b_1 (o_1 + 1) 1 = some [(.raw (.pointer x57))] ∧
                  CallP Tryz.prog 33 [(.raw (.pointer x57)), (pI x18), (.agg [(pI x19a), (pB x19b), (pS x19c), (.list 6 .sh x19d), (.list 6 .sh x19e), (pB x19f), (.list 7 .sh x19g), (pI (IntKind.wrap .i64 (x19h + (1)))), (.raw (.pointer x19i))])] u_8 fun v_4 u_9 =>
                  ∃ (x60 : Bool), v_4 = (pB x60) ∧
                  stM b4 0 [(pI x18)] u_9 fun u_10 =>
                  RR (some .ret) u_10))
              (J () u_8))
            (J () u_7))
          (J () u_4))
        (J () u_4))
      (fun s u_6 =>
        ∃ (x63 : Int), rdM u_6 b5 0 1 = some [(pI x63)] ∧
        CIf ((x18 : Int) == x63)
        (∃ (x65 : Int), rdM u_6 b5 0 1 = some [(pI x65)] ∧
          stM b5 0 [(pI (IntKind.wrap .i64 (x65 + (1))))] u_6 fun u_11 =>
          RR none u_11)
        (RR none u_6)))
    (fun p u_5 =>
      PK p
      (CJoin (α := Option Addr) (fun J_1 =>
          ∃ (x67a : Int), ∃ (x67b : Bool), ∃ (x67c : ByteArray), ∃ (x67df : Fl) (x67d : List (List PV)), ∃ (x67ef : Fl) (x67e : List (List PV)), ∃ (x67f : Bool), ∃ (x67gf : Fl) (x67g : List (List PV)), rdM u_5 b3 0 7 = some [(pI x67a), (pB x67b), (pS x67c), (.list 6 x67df x67d), (.list 6 x67ef x67e), (pB x67f), (.list 7 x67gf x67g)] ∧
          (CallQ Tryz.prog 34 [(.list 12 .nil [])] u_5 fun v_5 u_13 =>
            ∃ (x68 : Option Addr), v_5 = (.raw (.pointer x68)) ∧
            ∀ (b8 : Nat), (Mem.or u_5 u_13) b8 = none →
            stM b8 0 [(pI x67a), (pB x67b), (pS x67c), (.list 6 x67df x67d), (.list 6 x67ef x67e), (pB x67f), (.list 7 x67gf x67g), (pI (1)), (.raw (.pointer x68))] (Mem.set (Mem.or u_5 u_13) b8 (some (.cells 65 [(pI (0)), (pB false), (pS ⟨#[]⟩), (.list 6 .nil []), (.list 6 .nil []), (pB false), (.list 7 .nil []), (pI (0)), (.raw (.pointer none))]))) fun u_14 =>
            J_1 (some ⟨b8, 0, none⟩) u_14) ∧
          (∀ (b8_1 : Nat), u_5 b8_1 = none →
            CallQ Tryz.prog 34 [(.list 12 .nil [])] (Mem.set u_5 b8_1 (some (.cells 65 [(pI (0)), (pB false), (pS ⟨#[]⟩), (.list 6 .nil []), (.list 6 .nil []), (pB false), (.list 7 .nil []), (pI (0)), (.raw (.pointer none))]))) fun v_6 u_15 =>
            ∃ (x68_1 : Option Addr), v_6 = (.raw (.pointer x68_1)) ∧
            stM b8_1 0 [(pI x67a), (pB x67b), (pS x67c), (.list 6 x67df x67d), (.list 6 x67ef x67e), (pB x67f), (.list 7 x67gf x67g), (pI (1)), (.raw (.pointer x68_1))] (Mem.or (Mem.set u_5 b8_1 (some (.cells 65 [(pI (0)), (pB false), (pS ⟨#[]⟩), (.list 6 .nil []), (.list 6 .nil []), (pB false), (.list 7 .nil []), (pI (0)), (.raw (.pointer none))]))) u_15) fun u_16 =>
            J_1 (some ⟨b8_1, 0, none⟩) u_16))
        (fun s_1 u_12 =>
          ∃ (x70 : Option Addr), rdM u_12 b2 0 1 = some [(.raw (.pointer x70))] ∧
          nn x70
          (withPtrP (.raw (.pointer x70)) fun b_2 o_2 =>
            ∃ (x73 : Option Addr), rdM u_12 b_2 o_2 1 = some [(.raw (.pointer x73))] ∧
            CallP Tryz.prog 35 [(.raw (.pointer x73))] u_12 fun v_7 u_17 =>
            ∃ (x74 : Fn) (x74a x74b : List PV), v_7 = (.fn x74 x74a x74b) ∧
            RangeP Tryz.prog (.fn x74 x74a x74b) (fun vs_1 RR_1 u_18 =>
              ∃ (x75 : Int), ∃ (x76a : Int), ∃ (x76b : ByteArray), ∃ (x76c : Int), ∃ (x76d : Int), ∃ (x76e : ByteArray), ∃ (x76f : Int), ∃ (x76g : Int), ∃ (x76h : ByteArray), ∃ (x76i : Int), ∃ (x76j : Bool), ∃ (x76k : Bool), ∃ (x76l : Int), vs_1 = [(pI x75), (.agg [(pI x76a), (pS x76b), (pI x76c), (pI x76d), (pS x76e), (pI x76f), (pI x76g), (pS x76h), (pI x76i), (pB x76j), (pB x76k), (pI x76l)])] ∧
              ∃ (x77a : Int), ∃ (x77b : Bool), ∃ (x77c : ByteArray), ∃ (x77df : Fl) (x77d : List (List PV)), ∃ (x77ef : Fl) (x77e : List (List PV)), ∃ (x77f : Bool), ∃ (x77gf : Fl) (x77g : List (List PV)), rdM u_18 b3 0 7 = some [(pI x77a), (pB x77b), (pS x77c), (.list 6 x77df x77d), (.list 6 x77ef x77e), (pB x77f), (.list 7 x77gf x77g)] ∧
              CallP Tryz.prog 36 [(.agg [(pI x77a), (pB x77b), (pS x77c), (.list 6 .sh x77d), (.list 6 .sh x77e), (pB x77f), (.list 7 .sh x77g)]), (.agg [(pI x76a), (pS x76b), (pI x76c), (pI x76d), (pS x76e), (pI x76f), (pI x76g), (pS x76h), (pI x76i), (pB x76j), (pB x76k), (pI x76l)])] u_18 fun v_8 u_20 =>
              ∃ (x79 : Bool), v_8 = (pB x79) ∧
              CIf x79
              (withPtrP (.raw (.pointer s_1)) fun b_3 o_3 =>
                ∃ (x81 : Option Addr), rdM u_20 b_3 (o_3 + 8) 1 = some [(.raw (.pointer x81))] ∧
                CallP Tryz.prog 37 [(.raw (.pointer x81)), (.agg [(pI x76a), (pS x76b), (pI x76c), (pI x76d), (pS x76e), (pI x76f), (pI x76g), (pS x76h), (pI x76i), (pB x76j), (pB x76k), (pI x76l)])] u_20 fun v_9 u_21 =>
                ∃ (x83 : Bool), v_9 = (pB x83) ∧
                RR_1 none u_21)
              (RR_1 none u_20))
            (fun p_1 u_19 =>
              PK p_1
              (∃ (x84 : Option Addr), rdM u_19 b2 0 1 = some [(.raw (.pointer x84))] ∧
                nn x84
                (withPtrP (.raw (.pointer x84)) fun b_4 o_4 =>
                  ∃ (x87 : Option Addr), rdM u_19 b_4 (o_4 + 1) 1 = some [(.raw (.pointer x87))] ∧
                  ∃ (x88 : Int), rdM u_19 b5 0 1 = some [(pI x88)] ∧
                  withPtrP (.raw (.pointer s_1)) fun b_5 o_5 =>
                  ∃ (x89a : Int), ∃ (x89b : Bool), ∃ (x89c : ByteArray), ∃ (x89df : Fl) (x89d : List (List PV)), ∃ (x89ef : Fl) (x89e : List (List PV)), ∃ (x89f : Bool), ∃ (x89gf : Fl) (x89g : List (List PV)), ∃ (x89h : Int), ∃ (x89i : Option Addr), rdM u_19 b_5 o_5 9 = some [(pI x89a), (pB x89b), (pS x89c), (.list 6 x89df x89d), (.list 6 x89ef x89e), (pB x89f), (.list 7 x89gf x89g), (pI x89h), (.raw (.pointer x89i))] ∧
                  CallP Tryz.prog 33 [(.raw (.pointer x87)), (pI x88), (.agg [(pI x89a), (pB x89b), (pS x89c), (.list 6 .sh x89d), (.list 6 .sh x89e), (pB x89f), (.list 7 .sh x89g), (pI x89h), (.raw (.pointer x89i))])] u_19 fun v_10 u_22 =>
                  ∃ (x90 : Bool), v_10 = (pB x90) ∧
                  ∃ (x91 : Int), rdM u_22 b5 0 1 = some [(pI x91)] ∧
                  stM b4 0 [(pI x91)] u_22 fun u_23 =>
                  ∃ (r0 : Int), rdM u_23 b4 0 1 = some [(pI r0)] ∧
                  R (pI r0) u_23))
              (False)
              [])
            u_17)))
      (∃ (r0_1 : Int), rdM u_5 b4 0 1 = some [(pI r0_1)] ∧
        R (pI r0_1) u_5)
      [])
    u_3)

theorem G_alpha_Net_Want.ok (a0 : Option Addr) (a1a : Int) (a1b : Bool) (a1c : ByteArray) (a1df : Fl) (a1d : List (List PV)) (a1ef : Fl) (a1e : List (List PV)) (a1f : Bool) (a1gf : Fl) (a1g : List (List PV)) (u0 : Mem) (R : PV → Mem → Prop) : G_alpha_Net_Want.sh a0 a1a a1b a1c a1df a1d a1ef a1e a1f a1gf a1g u0 R = VF ⟨Tryz.prog, 92, [7, 10], [], [(10, ⟨[], [(7, 9)]⟩), (13, ⟨[(8, .one (.raw .ptr))], []⟩)], [(18, [60, 65]), (75, [60, 36])], [], [], []⟩ ((Tryz.f10.body).getD .skip) [.cell 4 3] [(.raw (.pointer a0)), (.agg [(pI a1a), (pB a1b), (pS a1c), (.list 6 a1df a1d), (.list 6 a1ef a1e), (pB a1f), (.list 7 a1gf a1g)])] u0 R := by kernel_rfl

theorem G_alpha_Net_Want.c {a0 : Option Addr} {a1a : Int} {a1b : Bool} {a1c : ByteArray} {a1df : Fl} {a1d : List (List PV)} {a1ef : Fl} {a1e : List (List PV)} {a1f : Bool} {a1gf : Fl} {a1g : List (List PV)} {u0 : Mem} {K : PV → Mem → Prop} (h : G_alpha_Net_Want.sh a0 a1a a1b a1c a1df a1d a1ef a1e a1f a1gf a1g u0 K) : CallP Tryz.prog 10 [(.raw (.pointer a0)), (.agg [(pI a1a), (pB a1b), (pS a1c), (.list 6 a1df a1d), (.list 6 a1ef a1e), (pB a1f), (.list 7 a1gf a1g)])] u0 K :=
  VF_sound (E := ⟨Tryz.prog, 92, [7, 10], [], [(10, ⟨[], [(7, 9)]⟩), (13, ⟨[(8, .one (.raw .ptr))], []⟩)], [(18, [60, 65]), (75, [60, 36])], [], [], []⟩) (rs := [.cell 4 3]) Tryz.func10 rfl rfl rfl (by kernel_rfl) (by kernel_rfl) (G_alpha_Net_Want.ok a0 a1a a1b a1c a1df a1d a1ef a1e a1f a1gf a1g u0 K ▸ h)


/-- (*ponder/alpha.Net).Leave -/
def G_alpha_Net_Leave.sh (a0 : Option Addr) (a1 : Int) (u0 : Mem) (R : PV → Mem → Prop) : Prop :=
  nn a0
  (withPtrP (.raw (.pointer a0)) fun b o =>
    ∃ (x11 : Option Addr), rdM u0 b (o + 1) 1 = some [(.raw (.pointer x11))] ∧
    CallP Tryz.prog 38 [(.raw (.pointer x11)), (pI a1)] u0 fun v u =>
    ∃ (x13pa : Int), ∃ (x13pb : Bool), ∃ (x13pc : ByteArray), ∃ (x13pdf : Fl) (x13pd : List (List PV)), ∃ (x13pef : Fl) (x13pe : List (List PV)), ∃ (x13pf : Bool), ∃ (x13pgf : Fl) (x13pg : List (List PV)), ∃ (x13ph : Int), ∃ (x13pi : Option Addr), ∃ (x13q : Bool), v = (.tup [(.agg [(pI x13pa), (pB x13pb), (pS x13pc), (.list 6 x13pdf x13pd), (.list 6 x13pef x13pe), (pB x13pf), (.list 7 x13pgf x13pg), (pI x13ph), (.raw (.pointer x13pi))]), (pB x13q)]) ∧
    CIf (!x13q)
    (R (pB false) u)
    (CIf (((IntKind.wrap .i64 (x13ph - (1))) : Int) == (0))
      (nn a0
        (withPtrP (.raw (.pointer a0)) fun b_1 o_1 =>
          ∃ (x28 : Option Addr), rdM u b_1 (o_1 + 1) 1 = some [(.raw (.pointer x28))] ∧
          CallP Tryz.prog 39 [(.raw (.pointer x28)), (pI a1)] u fun v_1 u_1 =>
          ∃ (x30pa : Int), ∃ (x30pb : Bool), ∃ (x30pc : ByteArray), ∃ (x30pdf : Fl) (x30pd : List (List PV)), ∃ (x30pef : Fl) (x30pe : List (List PV)), ∃ (x30pf : Bool), ∃ (x30pgf : Fl) (x30pg : List (List PV)), ∃ (x30ph : Int), ∃ (x30pi : Option Addr), ∃ (x30q : Bool), v_1 = (.tup [(.agg [(pI x30pa), (pB x30pb), (pS x30pc), (.list 6 x30pdf x30pd), (.list 6 x30pef x30pe), (pB x30pf), (.list 7 x30pgf x30pg), (pI x30ph), (.raw (.pointer x30pi))]), (pB x30q)]) ∧
          R (pB true) u_1))
      (nn a0
        (withPtrP (.raw (.pointer a0)) fun b_2 o_2 =>
          ∃ (x34 : Option Addr), rdM u b_2 (o_2 + 1) 1 = some [(.raw (.pointer x34))] ∧
          CallP Tryz.prog 33 [(.raw (.pointer x34)), (pI a1), (.agg [(pI x13pa), (pB x13pb), (pS x13pc), (.list 6 .sh x13pd), (.list 6 .sh x13pe), (pB x13pf), (.list 7 .sh x13pg), (pI (IntKind.wrap .i64 (x13ph - (1)))), (.raw (.pointer x13pi))])] u fun v_2 u_2 =>
          ∃ (x37 : Bool), v_2 = (pB x37) ∧
          R (pB true) u_2))))

theorem G_alpha_Net_Leave.ok (a0 : Option Addr) (a1 : Int) (u0 : Mem) (R : PV → Mem → Prop) : G_alpha_Net_Leave.sh a0 a1 u0 R = VF ⟨Tryz.prog, 38, [5], [], [], [], [], [], []⟩ ((Tryz.f11.body).getD .skip) [.tmp 4] [(.raw (.pointer a0)), (pI a1)] u0 R := by kernel_rfl

theorem G_alpha_Net_Leave.c {a0 : Option Addr} {a1 : Int} {u0 : Mem} {K : PV → Mem → Prop} (h : G_alpha_Net_Leave.sh a0 a1 u0 K) : CallP Tryz.prog 11 [(.raw (.pointer a0)), (pI a1)] u0 K :=
  VF_sound (E := ⟨Tryz.prog, 38, [5], [], [], [], [], [], []⟩) (rs := [.tmp 4]) Tryz.func11 rfl rfl rfl (by kernel_rfl) (by kernel_rfl) (G_alpha_Net_Leave.ok a0 a1 u0 K ▸ h)


/-- (*ponder/alpha.Net).Put -/
def G_alpha_Net_Put.sh (a0 : Option Addr) (a1a : Int) (a1b : ByteArray) (a1c : Int) (a1d : Int) (a1e : ByteArray) (a1f : Int) (a1g : Int) (a1h : ByteArray) (a1i : Int) (a1j : Bool) (a1k : Bool) (a1l : Int) (u0 : Mem) (R : PV → Mem → Prop) : Prop :=
  ∀ (b3 : Nat), u0 b3 = none →
  CJoin (α := (Fl × List (List PV)) × Int) (fun J =>
    nn a0
    (withPtrP (.raw (.pointer a0)) fun b o =>
      ∃ (x15 : Option Addr), rdM (Mem.set u0 b3 (some (.cells 36 [(pI a1a), (pS a1b), (pI a1c), (pI a1d), (pS a1e), (pI a1f), (pI a1g), (pS a1h), (pI a1i), (pB a1j), (pB a1k), (pI a1l)]))) b o 1 = some [(.raw (.pointer x15))] ∧
      ∃ (x17 : Int), rdM (Mem.set u0 b3 (some (.cells 36 [(pI a1a), (pS a1b), (pI a1c), (pI a1d), (pS a1e), (pI a1f), (pI a1g), (pS a1h), (pI a1i), (pB a1j), (pB a1k), (pI a1l)]))) b3 11 1 = some [(pI x17)] ∧
      (CallP Tryz.prog 40 [(.raw (.pointer x15)), (pI x17)] (Mem.set u0 b3 (some (.cells 36 [(pI a1a), (pS a1b), (pI a1c), (pI a1d), (pS a1e), (pI a1f), (pI a1g), (pS a1h), (pI a1i), (pB a1j), (pB a1k), (pI a1l)]))) fun v u_1 =>
        ∃ (x18pa : Int), ∃ (x18pb : ByteArray), ∃ (x18pc : Int), ∃ (x18pd : Int), ∃ (x18pe : ByteArray), ∃ (x18pf : Int), ∃ (x18pg : Int), ∃ (x18ph : ByteArray), ∃ (x18pi : Int), ∃ (x18pj : Bool), ∃ (x18pk : Bool), ∃ (x18pl : Int), ∃ (x18q : Bool), v = (.tup [(.agg [(pI x18pa), (pS x18pb), (pI x18pc), (pI x18pd), (pS x18pe), (pI x18pf), (pI x18pg), (pS x18ph), (pI x18pi), (pB x18pj), (pB x18pk), (pI x18pl)]), (pB x18q)]) ∧
        ∀ (b6 : Nat), u_1 b6 = none →
        stM b6 0 [(pI x18pa), (pS x18pb), (pI x18pc), (pI x18pd), (pS x18pe), (pI x18pf), (pI x18pg), (pS x18ph), (pI x18pi), (pB x18pj), (pB x18pk), (pI x18pl)] (Mem.set u_1 b6 (some (.cells 36 [(pI (0)), (pS ⟨#[]⟩), (pI (0)), (pI (0)), (pS ⟨#[]⟩), (pI (0)), (pI (0)), (pS ⟨#[]⟩), (pI (0)), (pB false), (pB false), (pI (0))]))) fun u_2 =>
        CIf x18q
        (R (.tup [(.list 1 .nil []), (pI (3))]) u_2)
        (J ((.nil, []), (0)) u_2)) ∧
      (∀ (b6_1 : Nat), (Mem.set u0 b3 (some (.cells 36 [(pI a1a), (pS a1b), (pI a1c), (pI a1d), (pS a1e), (pI a1f), (pI a1g), (pS a1h), (pI a1i), (pB a1j), (pB a1k), (pI a1l)]))) b6_1 = none →
        CallP Tryz.prog 40 [(.raw (.pointer x15)), (pI x17)] (Mem.set (Mem.set u0 b3 (some (.cells 36 [(pI a1a), (pS a1b), (pI a1c), (pI a1d), (pS a1e), (pI a1f), (pI a1g), (pS a1h), (pI a1i), (pB a1j), (pB a1k), (pI a1l)]))) b6_1 (some (.cells 36 [(pI (0)), (pS ⟨#[]⟩), (pI (0)), (pI (0)), (pS ⟨#[]⟩), (pI (0)), (pI (0)), (pS ⟨#[]⟩), (pI (0)), (pB false), (pB false), (pI (0))]))) fun v_1 u_3 =>
        ∃ (x18pa_1 : Int), ∃ (x18pb_1 : ByteArray), ∃ (x18pc_1 : Int), ∃ (x18pd_1 : Int), ∃ (x18pe_1 : ByteArray), ∃ (x18pf_1 : Int), ∃ (x18pg_1 : Int), ∃ (x18ph_1 : ByteArray), ∃ (x18pi_1 : Int), ∃ (x18pj_1 : Bool), ∃ (x18pk_1 : Bool), ∃ (x18pl_1 : Int), ∃ (x18q_1 : Bool), v_1 = (.tup [(.agg [(pI x18pa_1), (pS x18pb_1), (pI x18pc_1), (pI x18pd_1), (pS x18pe_1), (pI x18pf_1), (pI x18pg_1), (pS x18ph_1), (pI x18pi_1), (pB x18pj_1), (pB x18pk_1), (pI x18pl_1)]), (pB x18q_1)]) ∧
        stM b6_1 0 [(pI x18pa_1), (pS x18pb_1), (pI x18pc_1), (pI x18pd_1), (pS x18pe_1), (pI x18pf_1), (pI x18pg_1), (pS x18ph_1), (pI x18pi_1), (pB x18pj_1), (pB x18pk_1), (pI x18pl_1)] u_3 fun u_4 =>
        CIf x18q_1
        (R (.tup [(.list 1 .nil []), (pI (3))]) u_4)
        (J ((.nil, []), (0)) u_4))))
  (fun s u =>
    nn a0
    (withPtrP (.raw (.pointer a0)) fun b_1 o_1 =>
      ∃ (x25 : Option Addr), rdM u b_1 o_1 1 = some [(.raw (.pointer x25))] ∧
      ∃ (x27 : Int), rdM u b3 11 1 = some [(pI x27)] ∧
      ∃ (x28a : Int), ∃ (x28b : ByteArray), ∃ (x28c : Int), ∃ (x28d : Int), ∃ (x28e : ByteArray), ∃ (x28f : Int), ∃ (x28g : Int), ∃ (x28h : ByteArray), ∃ (x28i : Int), ∃ (x28j : Bool), ∃ (x28k : Bool), ∃ (x28l : Int), rdM u b3 0 12 = some [(pI x28a), (pS x28b), (pI x28c), (pI x28d), (pS x28e), (pI x28f), (pI x28g), (pS x28h), (pI x28i), (pB x28j), (pB x28k), (pI x28l)] ∧
      CallP Tryz.prog 41 [(.raw (.pointer x25)), (pI x27), (.agg [(pI x28a), (pS x28b), (pI x28c), (pI x28d), (pS x28e), (pI x28f), (pI x28g), (pS x28h), (pI x28i), (pB x28j), (pB x28k), (pI x28l)])] u fun v_2 u_5 =>
      ∃ (x29 : Bool), v_2 = (pB x29) ∧
      ∀ (b8 : Nat), u_5 b8 = none →
      nn a0
      (withPtrP (.raw (.pointer a0)) fun b_2 o_2 =>
        ∃ (x33 : Option Addr), rdM (Mem.set u_5 b8 (some (.cells 47 [(.list 1 .nil [])]))) b_2 (o_2 + 1) 1 = some [(.raw (.pointer x33))] ∧
        CallP Tryz.prog 31 [(.raw (.pointer x33))] (Mem.set u_5 b8 (some (.cells 47 [(.list 1 .nil [])]))) fun v_3 u_6 =>
        ∃ (x34 : Fn) (x34a x34b : List PV), v_3 = (.fn x34 x34a x34b) ∧
        RangeP Tryz.prog (.fn x34 x34a x34b) (fun vs RR u_7 =>
          ∃ (x35 : Int), ∃ (x36a : Int), ∃ (x36b : Bool), ∃ (x36c : ByteArray), ∃ (x36df : Fl) (x36d : List (List PV)), ∃ (x36ef : Fl) (x36e : List (List PV)), ∃ (x36f : Bool), ∃ (x36gf : Fl) (x36g : List (List PV)), ∃ (x36h : Int), ∃ (x36i : Option Addr), vs = [(pI x35), (.agg [(pI x36a), (pB x36b), (pS x36c), (.list 6 x36df x36d), (.list 6 x36ef x36e), (pB x36f), (.list 7 x36gf x36g), (pI x36h), (.raw (.pointer x36i))])] ∧
          ∃ (x39a : Int), ∃ (x39b : ByteArray), ∃ (x39c : Int), ∃ (x39d : Int), ∃ (x39e : ByteArray), ∃ (x39f : Int), ∃ (x39g : Int), ∃ (x39h : ByteArray), ∃ (x39i : Int), ∃ (x39j : Bool), ∃ (x39k : Bool), ∃ (x39l : Int), rdM u_7 b3 0 12 = some [(pI x39a), (pS x39b), (pI x39c), (pI x39d), (pS x39e), (pI x39f), (pI x39g), (pS x39h), (pI x39i), (pB x39j), (pB x39k), (pI x39l)] ∧
          CallP Tryz.prog 36 [(.agg [(pI x36a), (pB x36b), (pS x36c), (.list 6 .sh x36d), (.list 6 .sh x36e), (pB x36f), (.list 7 .sh x36g)]), (.agg [(pI x39a), (pS x39b), (pI x39c), (pI x39d), (pS x39e), (pI x39f), (pI x39g), (pS x39h), (pI x39i), (pB x39j), (pB x39k), (pI x39l)])] u_7 fun v_4 u_9 =>
          ∃ (x40 : Bool), v_4 = (pB x40) ∧
          CIf x40
          (∃ (x43a : Int), ∃ (x43b : ByteArray), ∃ (x43c : Int), ∃ (x43d : Int), ∃ (x43e : ByteArray), ∃ (x43f : Int), ∃ (x43g : Int), ∃ (x43h : ByteArray), ∃ (x43i : Int), ∃ (x43j : Bool), ∃ (x43k : Bool), ∃ (x43l : Int), rdM u_9 b3 0 12 = some [(pI x43a), (pS x43b), (pI x43c), (pI x43d), (pS x43e), (pI x43f), (pI x43g), (pS x43h), (pI x43i), (pB x43j), (pB x43k), (pI x43l)] ∧
            CallP Tryz.prog 37 [(.raw (.pointer x36i)), (.agg [(pI x43a), (pS x43b), (pI x43c), (pI x43d), (pS x43e), (pI x43f), (pI x43g), (pS x43h), (pI x43i), (pB x43j), (pB x43k), (pI x43l)])] u_9 fun v_5 u_10 =>
            ∃ (x44 : Bool), v_5 = (pB x44) ∧
            ∃ (x45f : Fl) (x45 : List (List PV)), rdM u_10 b8 0 1 = some [(.list 1 x45f x45)] ∧
            appL false 1 8 x45f x45 [[(pI x35)]] u_10 fun f48 u_11 =>
            stM b8 0 [(.list 1 f48 (x45 ++ [[(pI x35)]]))] u_11 fun u_12 =>
            RR none u_12)
          (RR none u_9))
        (fun p u_8 =>
          PK p
          (∃ (x49f : Fl) (x49 : List (List PV)), rdM u_8 b8 0 1 = some [(.list 1 x49f x49)] ∧
            R (.tup [(.list 1 x49f x49), (pI (0))]) u_8)
          (False)
          [])
        u_6)))

theorem G_alpha_Net_Put.ok (a0 : Option Addr) (a1a : Int) (a1b : ByteArray) (a1c : Int) (a1d : Int) (a1e : ByteArray) (a1f : Int) (a1g : Int) (a1h : ByteArray) (a1i : Int) (a1j : Bool) (a1k : Bool) (a1l : Int) (u0 : Mem) (R : PV → Mem → Prop) : G_alpha_Net_Put.sh a0 a1a a1b a1c a1d a1e a1f a1g a1h a1i a1j a1k a1l u0 R = VF ⟨Tryz.prog, 50, [10], [], [(4, ⟨[(4, .one (.list 1)), (5, .one (.raw (.int .i64)))], []⟩)], [(35, [60, 65])], [], [], []⟩ ((Tryz.f12.body).getD .skip) [.tmp 4, .tmp 5] [(.raw (.pointer a0)), (.agg [(pI a1a), (pS a1b), (pI a1c), (pI a1d), (pS a1e), (pI a1f), (pI a1g), (pS a1h), (pI a1i), (pB a1j), (pB a1k), (pI a1l)])] u0 R := by kernel_rfl

theorem G_alpha_Net_Put.c {a0 : Option Addr} {a1a : Int} {a1b : ByteArray} {a1c : Int} {a1d : Int} {a1e : ByteArray} {a1f : Int} {a1g : Int} {a1h : ByteArray} {a1i : Int} {a1j : Bool} {a1k : Bool} {a1l : Int} {u0 : Mem} {K : PV → Mem → Prop} (h : G_alpha_Net_Put.sh a0 a1a a1b a1c a1d a1e a1f a1g a1h a1i a1j a1k a1l u0 K) : CallP Tryz.prog 12 [(.raw (.pointer a0)), (.agg [(pI a1a), (pS a1b), (pI a1c), (pI a1d), (pS a1e), (pI a1f), (pI a1g), (pS a1h), (pI a1i), (pB a1j), (pB a1k), (pI a1l)])] u0 K :=
  VF_sound (E := ⟨Tryz.prog, 50, [10], [], [(4, ⟨[(4, .one (.list 1)), (5, .one (.raw (.int .i64)))], []⟩)], [(35, [60, 65])], [], [], []⟩) (rs := [.tmp 4, .tmp 5]) Tryz.func12 rfl rfl rfl (by kernel_rfl) (by kernel_rfl) (G_alpha_Net_Put.ok a0 a1a a1b a1c a1d a1e a1f a1g a1h a1i a1j a1k a1l u0 K ▸ h)


/-- ponder/ponderlaw12.tag -/
def G_ponderlaw12_tag.sh (a0f : Fl) (a0 : List (List PV)) (a1 : Int) (u0 : Mem) (R : PV → Mem → Prop) : Prop :=
  LoopI (α := Int) (fun next s u =>
    CIf (decide ((s : Int) < ((List.length a0 : Nat) : Int)))
    ((0 : Int) ≤ s ∧ ∃ (r14 : List PV), (a0)[Int.toNat s]? = some r14 ∧
      ∃ (x16 : Int), rowM r14 11 1 = some [(pI x16)] ∧
      CIf ((x16 : Int) == a1)
      (R (pI s) u)
      (next (IntKind.wrap .i64 (s + (1))) u))
    (R (pI (-1)) u))
  (0) u0

theorem G_ponderlaw12_tag.ok (a0f : Fl) (a0 : List (List PV)) (a1 : Int) (u0 : Mem) (R : PV → Mem → Prop) : G_ponderlaw12_tag.sh a0f a0 a1 u0 R = VF ⟨Tryz.prog, 20, [], [(2, ⟨[(5, .one (.raw (.int .i64)))], []⟩)], [], [], [], [], []⟩ ((Tryz.f13.body).getD .skip) [.tmp 4] [(.list 12 a0f a0), (pI a1)] u0 R := by kernel_rfl

theorem G_ponderlaw12_tag.c {a0f : Fl} {a0 : List (List PV)} {a1 : Int} {u0 : Mem} {K : PV → Mem → Prop} (h : G_ponderlaw12_tag.sh a0f a0 a1 u0 K) : CallP Tryz.prog 13 [(.list 12 a0f a0), (pI a1)] u0 K :=
  VF_sound (E := ⟨Tryz.prog, 20, [], [(2, ⟨[(5, .one (.raw (.int .i64)))], []⟩)], [], [], [], [], []⟩) (rs := [.tmp 4]) Tryz.func13 rfl rfl rfl (by kernel_rfl) (by kernel_rfl) (G_ponderlaw12_tag.ok a0f a0 a1 u0 K ▸ h)


/-- ponder/ponderkeep.Ints -/
def G_ponderkeep_Ints.sh (a0f : Fl) (a0 : List (List PV)) (a1f : Fl) (a1 : List (List PV)) (u0 : Mem) (R : PV → Mem → Prop) : Prop :=
  CIf ((((List.length a0 : Nat) : Int) : Int) != ((List.length a1 : Nat) : Int))
  (R (pB false) u0)
  (LoopI (α := Int) (fun next s u =>
      CIf (decide ((s : Int) < ((List.length a0 : Nat) : Int)))
      ((0 : Int) ≤ s ∧ ∃ (r19 : List PV), (a0)[Int.toNat s]? = some r19 ∧
        ∃ (x20 : Int), rowM r19 0 1 = some [(pI x20)] ∧
        (0 : Int) ≤ s ∧ ∃ (r23 : List PV), (a1)[Int.toNat s]? = some r23 ∧
        ∃ (x24 : Int), rowM r23 0 1 = some [(pI x24)] ∧
        CIf ((x20 : Int) != x24)
        (R (pB false) u)
        (next (IntKind.wrap .i64 (s + (1))) u))
      (R (pB true) u))
    (0) u0)

theorem G_ponderkeep_Ints.ok (a0f : Fl) (a0 : List (List PV)) (a1f : Fl) (a1 : List (List PV)) (u0 : Mem) (R : PV → Mem → Prop) : G_ponderkeep_Ints.sh a0f a0 a1f a1 u0 R = VF ⟨Tryz.prog, 26, [], [(4, ⟨[(5, .one (.raw (.int .i64)))], []⟩)], [], [], [], [], []⟩ ((Tryz.f14.body).getD .skip) [.tmp 4] [(.list 1 a0f a0), (.list 1 a1f a1)] u0 R := by kernel_rfl

theorem G_ponderkeep_Ints.c {a0f : Fl} {a0 : List (List PV)} {a1f : Fl} {a1 : List (List PV)} {u0 : Mem} {K : PV → Mem → Prop} (h : G_ponderkeep_Ints.sh a0f a0 a1f a1 u0 K) : CallP Tryz.prog 14 [(.list 1 a0f a0), (.list 1 a1f a1)] u0 K :=
  VF_sound (E := ⟨Tryz.prog, 26, [], [(4, ⟨[(5, .one (.raw (.int .i64)))], []⟩)], [], [], [], [], []⟩) (rs := [.tmp 4]) Tryz.func14 rfl rfl rfl (by kernel_rfl) (by kernel_rfl) (G_ponderkeep_Ints.ok a0f a0 a1f a1 u0 K ▸ h)


/-- ponder/ponderlaw12.in -/
def G_ponderlaw12_in.sh (a0 : Option Addr) (a0n a0c : Nat) (a1a : Int) (a1b : ByteArray) (a1c : Int) (a1d : Int) (a1e : ByteArray) (a1f : Int) (a1g : Int) (a1h : ByteArray) (a1i : Int) (a1j : Bool) (a1k : Bool) (a1l : Int) (u0 : Mem) (R : PV → Mem → Prop) : Prop :=
  LoopI (α := (Fl × List (List PV)) × Int) (fun next s u =>
    CIf (decide ((s.2 : Int) < ((a0n : Nat) : Int)))
    (withSl a0 fun b o =>
      (0 : Int) ≤ s.2 ∧ s.2 < ((a0n : Nat) : Int) ∧
      ∃ (x17 : Int), rdM u b ((o + Int.toNat s.2 * 8) + 7) 1 = some [(pI x17)] ∧
      CIf (decide ((x17 : Int) > (0)))
      (withSl a0 fun b_1 o_1 =>
        (0 : Int) ≤ s.2 ∧ s.2 < ((a0n : Nat) : Int) ∧
        ∃ (x24a : Int), ∃ (x24b : Bool), ∃ (x24c : ByteArray), ∃ (x24df : Fl) (x24d : List (List PV)), ∃ (x24ef : Fl) (x24e : List (List PV)), ∃ (x24f : Bool), ∃ (x24gf : Fl) (x24g : List (List PV)), rdM u b_1 (o_1 + Int.toNat s.2 * 8) 7 = some [(pI x24a), (pB x24b), (pS x24c), (.list 6 x24df x24d), (.list 6 x24ef x24e), (pB x24f), (.list 7 x24gf x24g)] ∧
        CallP Tryz.prog 42 [(.agg [(pI x24a), (pB x24b), (pS x24c), (.list 6 .sh x24d), (.list 6 .sh x24e), (pB x24f), (.list 7 .sh x24g)]), (.agg [(pI a1a), (pS a1b), (pI a1c), (pI a1d), (pS a1e), (pI a1f), (pI a1g), (pS a1h), (pI a1i), (pB a1j), (pB a1k), (pI a1l)])] u fun v u_1 =>
        ∃ (x26 : Bool), v = (pB x26) ∧
        CIf x26
        (appL false 1 8 s.1.1 s.1.2 [[(pI s.2)]] u_1 fun f31 u_2 =>
          next ((f31, (s.1.2 ++ [[(pI s.2)]])), (IntKind.wrap .i64 (s.2 + (1)))) u_2)
        (next ((s.1.1, s.1.2), (IntKind.wrap .i64 (s.2 + (1)))) u_1))
      (next ((s.1.1, s.1.2), (IntKind.wrap .i64 (s.2 + (1)))) u))
    (R (.list 1 s.1.1 s.1.2) u))
  ((.nil, []), (0)) u0

theorem G_ponderlaw12_in.ok (a0 : Option Addr) (a0n a0c : Nat) (a1a : Int) (a1b : ByteArray) (a1c : Int) (a1d : Int) (a1e : ByteArray) (a1f : Int) (a1g : Int) (a1h : ByteArray) (a1i : Int) (a1j : Bool) (a1k : Bool) (a1l : Int) (u0 : Mem) (R : PV → Mem → Prop) : G_ponderlaw12_in.sh a0 a0n a0c a1a a1b a1c a1d a1e a1f a1g a1h a1i a1j a1k a1l u0 R = VF ⟨Tryz.prog, 33, [3], [(3, ⟨[(5, .one (.list 1)), (6, .one (.raw (.int .i64)))], []⟩)], [], [], [], [], [0, 8, 13, 20]⟩ ((Tryz.f15.body).getD .skip) [.tmp 4] [(.raw (.slice a0 a0n a0c)), (.agg [(pI a1a), (pS a1b), (pI a1c), (pI a1d), (pS a1e), (pI a1f), (pI a1g), (pS a1h), (pI a1i), (pB a1j), (pB a1k), (pI a1l)])] u0 R := by kernel_rfl

theorem G_ponderlaw12_in.c {a0 : Option Addr} {a0n a0c : Nat} {a1a : Int} {a1b : ByteArray} {a1c : Int} {a1d : Int} {a1e : ByteArray} {a1f : Int} {a1g : Int} {a1h : ByteArray} {a1i : Int} {a1j : Bool} {a1k : Bool} {a1l : Int} {u0 : Mem} {K : PV → Mem → Prop} (h : G_ponderlaw12_in.sh a0 a0n a0c a1a a1b a1c a1d a1e a1f a1g a1h a1i a1j a1k a1l u0 K) : CallP Tryz.prog 15 [(.raw (.slice a0 a0n a0c)), (.agg [(pI a1a), (pS a1b), (pI a1c), (pI a1d), (pS a1e), (pI a1f), (pI a1g), (pS a1h), (pI a1i), (pB a1j), (pB a1k), (pI a1l)])] u0 K :=
  VF_sound (E := ⟨Tryz.prog, 33, [3], [(3, ⟨[(5, .one (.list 1)), (6, .one (.raw (.int .i64)))], []⟩)], [], [], [], [], [0, 8, 13, 20]⟩) (rs := [.tmp 4]) Tryz.func15 rfl rfl rfl (by kernel_rfl) (by kernel_rfl) (G_ponderlaw12_in.ok a0 a0n a0c a1a a1b a1c a1d a1e a1f a1g a1h a1i a1j a1k a1l u0 K ▸ h)


/-- ponder/ponderlaw12.rise -/
def G_ponderlaw12_rise.sh (a0f : Fl) (a0 : List (List PV)) (a1a : Int) (a1b : ByteArray) (a1c : Int) (a1d : Int) (a1e : ByteArray) (a1f : Int) (a1g : Int) (a1h : ByteArray) (a1i : Int) (a1j : Bool) (a1k : Bool) (a1l : Int) (u0 : Mem) (R : PV → Mem → Prop) : Prop :=
  CJoin (α := Int) (fun J =>
    LoopI (α := Int) (fun next s_1 u_1 =>
      CIf (decide ((s_1 : Int) > (0)))
      ((0 : Int) ≤ (IntKind.wrap .i64 (s_1 - (1))) ∧ ∃ (r15 : List PV), (a0)[Int.toNat (IntKind.wrap .i64 (s_1 - (1)))]? = some r15 ∧
        ∃ (x17 : Int), rowM r15 11 1 = some [(pI x17)] ∧
        CIf (decide ((x17 : Int) > a1l))
        (next (IntKind.wrap .i64 (s_1 - (1))) u_1)
        (J s_1 u_1))
      (J s_1 u_1))
    ((List.length a0 : Nat) : Int) u0)
  (fun s u =>
    (0 : Int) ≤ (0 : Int) ∧ (0 : Int) ≤ s ∧ s ≤ ((List.length a0 : Nat) : Int) ∧ 
    appL false 12 112 .nil [] (List.drop (Int.toNat (0 : Int)) (List.take (Int.toNat s) a0)) u fun f27 u_2 =>
    appL false 12 112 f27 ([] ++ (List.drop (Int.toNat (0 : Int)) (List.take (Int.toNat s) a0))) [[(pI a1a), (pS a1b), (pI a1c), (pI a1d), (pS a1e), (pI a1f), (pI a1g), (pS a1h), (pI a1i), (pB a1j), (pB a1k), (pI a1l)]] u_2 fun f31 u_3 =>
    (0 : Int) ≤ s ∧ s ≤ ((List.length a0 : Nat) : Int) ∧ ((List.length a0 : Nat) : Int) ≤ ((List.length a0 : Nat) : Int) ∧ 
    appL false 12 112 f31 (([] ++ (List.drop (Int.toNat (0 : Int)) (List.take (Int.toNat s) a0))) ++ [[(pI a1a), (pS a1b), (pI a1c), (pI a1d), (pS a1e), (pI a1f), (pI a1g), (pS a1h), (pI a1i), (pB a1j), (pB a1k), (pI a1l)]]) (List.drop (Int.toNat s) (List.take (Int.toNat ((List.length a0 : Nat) : Int)) a0)) u_3 fun f36 u_4 =>
    R (.list 12 f36 ((([] ++ (List.drop (Int.toNat (0 : Int)) (List.take (Int.toNat s) a0))) ++ [[(pI a1a), (pS a1b), (pI a1c), (pI a1d), (pS a1e), (pI a1f), (pI a1g), (pS a1h), (pI a1i), (pB a1j), (pB a1k), (pI a1l)]]) ++ (List.drop (Int.toNat s) (List.take (Int.toNat ((List.length a0 : Nat) : Int)) a0)))) u_4)

theorem G_ponderlaw12_rise.ok (a0f : Fl) (a0 : List (List PV)) (a1a : Int) (a1b : ByteArray) (a1c : Int) (a1d : Int) (a1e : ByteArray) (a1f : Int) (a1g : Int) (a1h : ByteArray) (a1i : Int) (a1j : Bool) (a1k : Bool) (a1l : Int) (u0 : Mem) (R : PV → Mem → Prop) : G_ponderlaw12_rise.sh a0f a0 a1a a1b a1c a1d a1e a1f a1g a1h a1i a1j a1k a1l u0 R = VF ⟨Tryz.prog, 37, [3], [(2, ⟨[(5, .one (.raw (.int .i64)))], []⟩)], [(4, ⟨[(5, .one (.raw (.int .i64)))], []⟩)], [], [], [], []⟩ ((Tryz.f16.body).getD .skip) [.tmp 4] [(.list 12 a0f a0), (.agg [(pI a1a), (pS a1b), (pI a1c), (pI a1d), (pS a1e), (pI a1f), (pI a1g), (pS a1h), (pI a1i), (pB a1j), (pB a1k), (pI a1l)])] u0 R := by kernel_rfl

theorem G_ponderlaw12_rise.c {a0f : Fl} {a0 : List (List PV)} {a1a : Int} {a1b : ByteArray} {a1c : Int} {a1d : Int} {a1e : ByteArray} {a1f : Int} {a1g : Int} {a1h : ByteArray} {a1i : Int} {a1j : Bool} {a1k : Bool} {a1l : Int} {u0 : Mem} {K : PV → Mem → Prop} (h : G_ponderlaw12_rise.sh a0f a0 a1a a1b a1c a1d a1e a1f a1g a1h a1i a1j a1k a1l u0 K) : CallP Tryz.prog 16 [(.list 12 a0f a0), (.agg [(pI a1a), (pS a1b), (pI a1c), (pI a1d), (pS a1e), (pI a1f), (pI a1g), (pS a1h), (pI a1i), (pB a1j), (pB a1k), (pI a1l)])] u0 K :=
  VF_sound (E := ⟨Tryz.prog, 37, [3], [(2, ⟨[(5, .one (.raw (.int .i64)))], []⟩)], [(4, ⟨[(5, .one (.raw (.int .i64)))], []⟩)], [], [], [], []⟩) (rs := [.tmp 4]) Tryz.func16 rfl rfl rfl (by kernel_rfl) (by kernel_rfl) (G_ponderlaw12_rise.ok a0f a0 a1a a1b a1c a1d a1e a1f a1g a1h a1i a1j a1k a1l u0 K ▸ h)


/-- (*ponder/alpha.Net).Drop -/
def G_alpha_Net_Drop.sh (a0 : Option Addr) (a1 : Int) (u0 : Mem) (R : PV → Mem → Prop) : Prop :=
  nn a0
  (withPtrP (.raw (.pointer a0)) fun b o =>
    ∃ (x15 : Option Addr), rdM u0 b o 1 = some [(.raw (.pointer x15))] ∧
    CallP Tryz.prog 43 [(.raw (.pointer x15)), (pI a1)] u0 fun v u =>
    ∃ (x17pa : Int), ∃ (x17pb : ByteArray), ∃ (x17pc : Int), ∃ (x17pd : Int), ∃ (x17pe : ByteArray), ∃ (x17pf : Int), ∃ (x17pg : Int), ∃ (x17ph : ByteArray), ∃ (x17pi : Int), ∃ (x17pj : Bool), ∃ (x17pk : Bool), ∃ (x17pl : Int), ∃ (x17q : Bool), v = (.tup [(.agg [(pI x17pa), (pS x17pb), (pI x17pc), (pI x17pd), (pS x17pe), (pI x17pf), (pI x17pg), (pS x17ph), (pI x17pi), (pB x17pj), (pB x17pk), (pI x17pl)]), (pB x17q)]) ∧
    ∀ (b6 : Nat), u b6 = none →
    stM b6 0 [(pI x17pa), (pS x17pb), (pI x17pc), (pI x17pd), (pS x17pe), (pI x17pf), (pI x17pg), (pS x17ph), (pI x17pi), (pB x17pj), (pB x17pk), (pI x17pl)] (Mem.set u b6 (some (.cells 36 [(pI (0)), (pS ⟨#[]⟩), (pI (0)), (pI (0)), (pS ⟨#[]⟩), (pI (0)), (pI (0)), (pS ⟨#[]⟩), (pI (0)), (pB false), (pB false), (pI (0))]))) fun u_1 =>
    CIf (!x17q)
    (R (.tup [(.list 1 .nil []), (pI (4))]) u_1)
    (∀ (b8 : Nat), u_1 b8 = none →
      nn a0
      (withPtrP (.raw (.pointer a0)) fun b_1 o_1 =>
        ∃ (x25 : Option Addr), rdM (Mem.set u_1 b8 (some (.cells 47 [(.list 1 .nil [])]))) b_1 (o_1 + 1) 1 = some [(.raw (.pointer x25))] ∧
        CallP Tryz.prog 31 [(.raw (.pointer x25))] (Mem.set u_1 b8 (some (.cells 47 [(.list 1 .nil [])]))) fun v_1 u_2 =>
        ∃ (x26 : Fn) (x26a x26b : List PV), v_1 = (.fn x26 x26a x26b) ∧
        RangeP Tryz.prog (.fn x26 x26a x26b) (fun vs RR u_3 =>
          ∃ (x27 : Int), ∃ (x28a : Int), ∃ (x28b : Bool), ∃ (x28c : ByteArray), ∃ (x28df : Fl) (x28d : List (List PV)), ∃ (x28ef : Fl) (x28e : List (List PV)), ∃ (x28f : Bool), ∃ (x28gf : Fl) (x28g : List (List PV)), ∃ (x28h : Int), ∃ (x28i : Option Addr), vs = [(pI x27), (.agg [(pI x28a), (pB x28b), (pS x28c), (.list 6 x28df x28d), (.list 6 x28ef x28e), (pB x28f), (.list 7 x28gf x28g), (pI x28h), (.raw (.pointer x28i))])] ∧
          ∃ (x31a : Int), ∃ (x31b : ByteArray), ∃ (x31c : Int), ∃ (x31d : Int), ∃ (x31e : ByteArray), ∃ (x31f : Int), ∃ (x31g : Int), ∃ (x31h : ByteArray), ∃ (x31i : Int), ∃ (x31j : Bool), ∃ (x31k : Bool), ∃ (x31l : Int), rdM u_3 b6 0 12 = some [(pI x31a), (pS x31b), (pI x31c), (pI x31d), (pS x31e), (pI x31f), (pI x31g), (pS x31h), (pI x31i), (pB x31j), (pB x31k), (pI x31l)] ∧
          CallP Tryz.prog 44 [(.raw (.pointer x28i)), (.agg [(pI x31a), (pS x31b), (pI x31c), (pI x31d), (pS x31e), (pI x31f), (pI x31g), (pS x31h), (pI x31i), (pB x31j), (pB x31k), (pI x31l)])] u_3 fun v_2 u_5 =>
          ∃ (x32 : Bool), v_2 = (pB x32) ∧
          CIf x32
          (∃ (x33f : Fl) (x33 : List (List PV)), rdM u_5 b8 0 1 = some [(.list 1 x33f x33)] ∧
            appL false 1 8 x33f x33 [[(pI x27)]] u_5 fun f36 u_6 =>
            stM b8 0 [(.list 1 f36 (x33 ++ [[(pI x27)]]))] u_6 fun u_7 =>
            RR none u_7)
          (RR none u_5))
        (fun p u_4 =>
          PK p
          (∃ (x37f : Fl) (x37 : List (List PV)), rdM u_4 b8 0 1 = some [(.list 1 x37f x37)] ∧
            R (.tup [(.list 1 x37f x37), (pI (0))]) u_4)
          (False)
          [])
        u_2)))

theorem G_alpha_Net_Drop.ok (a0 : Option Addr) (a1 : Int) (u0 : Mem) (R : PV → Mem → Prop) : G_alpha_Net_Drop.sh a0 a1 u0 R = VF ⟨Tryz.prog, 38, [10], [], [], [(27, [60, 65])], [], [], []⟩ ((Tryz.f17.body).getD .skip) [.tmp 4, .tmp 5] [(.raw (.pointer a0)), (pI a1)] u0 R := by kernel_rfl

theorem G_alpha_Net_Drop.c {a0 : Option Addr} {a1 : Int} {u0 : Mem} {K : PV → Mem → Prop} (h : G_alpha_Net_Drop.sh a0 a1 u0 K) : CallP Tryz.prog 17 [(.raw (.pointer a0)), (pI a1)] u0 K :=
  VF_sound (E := ⟨Tryz.prog, 38, [10], [], [], [(27, [60, 65])], [], [], []⟩) (rs := [.tmp 4, .tmp 5]) Tryz.func17 rfl rfl rfl (by kernel_rfl) (by kernel_rfl) (G_alpha_Net_Drop.ok a0 a1 u0 K ▸ h)


/-- ponder/ponderlaw12.right -/
def G_ponderlaw12_right.sh (a0 : Option Addr) (a1 : Option Addr) (a1n a1c : Nat) (a2f : Fl) (a2 : List (List PV)) (u0 : Mem) (R : PV → Mem → Prop) : Prop :=
  LoopI (α := Int × Int) (fun next s u =>
    CIf (decide ((s.2 : Int) < ((a1n : Nat) : Int)))
    (CJoin (α := (Fl × List (List PV))) (fun J =>
        LoopI (α := (Fl × List (List PV)) × Int) (fun next_1 s_2 u_2 =>
          CIf (decide ((s_2.2 : Int) < ((List.length a2 : Nat) : Int)))
          (withSl a1 fun b o =>
            (0 : Int) ≤ s.2 ∧ s.2 < ((a1n : Nat) : Int) ∧
            ∃ (x26 : Int), rdM u_2 b ((o + Int.toNat s.2 * 8) + 7) 1 = some [(pI x26)] ∧
            CIf (decide ((x26 : Int) > (0)))
            (withSl a1 fun b_1 o_1 =>
              (0 : Int) ≤ s.2 ∧ s.2 < ((a1n : Nat) : Int) ∧
              ∃ (x35a : Int), ∃ (x35b : Bool), ∃ (x35c : ByteArray), ∃ (x35df : Fl) (x35d : List (List PV)), ∃ (x35ef : Fl) (x35e : List (List PV)), ∃ (x35f : Bool), ∃ (x35gf : Fl) (x35g : List (List PV)), rdM u_2 b_1 (o_1 + Int.toNat s.2 * 8) 7 = some [(pI x35a), (pB x35b), (pS x35c), (.list 6 x35df x35d), (.list 6 x35ef x35e), (pB x35f), (.list 7 x35gf x35g)] ∧
              (0 : Int) ≤ s_2.2 ∧ ∃ (r38 : List PV), (a2)[Int.toNat s_2.2]? = some r38 ∧
              ∃ (x39a : Int), ∃ (x39b : ByteArray), ∃ (x39c : Int), ∃ (x39d : Int), ∃ (x39e : ByteArray), ∃ (x39f : Int), ∃ (x39g : Int), ∃ (x39h : ByteArray), ∃ (x39i : Int), ∃ (x39j : Bool), ∃ (x39k : Bool), ∃ (x39l : Int), rowM r38 0 12 = some [(pI x39a), (pS x39b), (pI x39c), (pI x39d), (pS x39e), (pI x39f), (pI x39g), (pS x39h), (pI x39i), (pB x39j), (pB x39k), (pI x39l)] ∧
              CallP Tryz.prog 42 [(.agg [(pI x35a), (pB x35b), (pS x35c), (.list 6 .sh x35d), (.list 6 .sh x35e), (pB x35f), (.list 7 .sh x35g)]), (.agg [(pI x39a), (pS x39b), (pI x39c), (pI x39d), (pS x39e), (pI x39f), (pI x39g), (pS x39h), (pI x39i), (pB x39j), (pB x39k), (pI x39l)])] u_2 fun v u_3 =>
              ∃ (x40 : Bool), v = (pB x40) ∧
              CIf x40
              ((0 : Int) ≤ s_2.2 ∧ ∃ (r44 : List PV), (a2)[Int.toNat s_2.2]? = some r44 ∧
                ∃ (x45a : Int), ∃ (x45b : ByteArray), ∃ (x45c : Int), ∃ (x45d : Int), ∃ (x45e : ByteArray), ∃ (x45f : Int), ∃ (x45g : Int), ∃ (x45h : ByteArray), ∃ (x45i : Int), ∃ (x45j : Bool), ∃ (x45k : Bool), ∃ (x45l : Int), rowM r44 0 12 = some [(pI x45a), (pS x45b), (pI x45c), (pI x45d), (pS x45e), (pI x45f), (pI x45g), (pS x45h), (pI x45i), (pB x45j), (pB x45k), (pI x45l)] ∧
                appL false 12 112 s_2.1.1 s_2.1.2 [[(pI x45a), (pS x45b), (pI x45c), (pI x45d), (pS x45e), (pI x45f), (pI x45g), (pS x45h), (pI x45i), (pB x45j), (pB x45k), (pI x45l)]] u_3 fun f47 u_4 =>
                next_1 ((f47, (s_2.1.2 ++ [[(pI x45a), (pS x45b), (pI x45c), (pI x45d), (pS x45e), (pI x45f), (pI x45g), (pS x45h), (pI x45i), (pB x45j), (pB x45k), (pI x45l)]])), (IntKind.wrap .i64 (s_2.2 + (1)))) u_4)
              (next_1 ((s_2.1.1, s_2.1.2), (IntKind.wrap .i64 (s_2.2 + (1)))) u_3))
            (J (s_2.1.1, s_2.1.2) u_2))
          (J (s_2.1.1, s_2.1.2) u_2))
        ((.nil, []), (0)) u)
      (fun s_1 u_1 =>
        CJoin (α := Int) (fun J_1 =>
          withSl a1 fun b_2 o_2 =>
          (0 : Int) ≤ s.2 ∧ s.2 < ((a1n : Nat) : Int) ∧
          ∃ (x52 : Int), rdM u_1 b_2 ((o_2 + Int.toNat s.2 * 8) + 7) 1 = some [(pI x52)] ∧
          CIf (decide ((x52 : Int) > (0)))
          (J_1 (IntKind.wrap .i64 (s.1 + (1))) u_1)
          (J_1 s.1 u_1))
        (fun s_3 u_5 =>
          withSl a1 fun b_3 o_3 =>
          (0 : Int) ≤ s.2 ∧ s.2 < ((a1n : Nat) : Int) ∧
          ∃ (x63 : Int), rdM u_5 b_3 ((o_3 + Int.toNat s.2 * 8) + 7) 1 = some [(pI x63)] ∧
          CallQ Tryz.prog 27 [(.raw (.pointer a0)), (pI s.2)] u_5 fun v_1 u_6 =>
          ∃ (x58 : Int), v_1 = (pI x58) ∧
          CIf ((x58 : Int) != x63)
          (R (pB false) (Mem.or u_5 u_6))
          (CallP Tryz.prog 47 [(.raw (.pointer a0)), (pI s.2)] (Mem.or u_5 u_6) fun v_2 u_7 =>
            ∃ (x68 : Fn) (x68a x68b : List PV), v_2 = (.fn x68 x68a x68b) ∧
            CallP Tryz.prog 46 [(.fn x68 x68a x68b)] u_7 fun v_3 u_8 =>
            ∃ (x69f : Fl) (x69 : List (List PV)), v_3 = (.list 12 x69f x69) ∧
            CallP Tryz.prog 45 [(.list 12 x69f x69), (.list 12 s_1.1 s_1.2)] u_8 fun v_4 u_9 =>
            ∃ (x71 : Bool), v_4 = (pB x71) ∧
            CIf (!x71)
            (R (pB false) u_9)
            (next (s_3, (IntKind.wrap .i64 (s.2 + (1)))) u_9)))))
    (CallP Tryz.prog 26 [(.raw (.pointer a0))] u fun v_5 u_10 =>
      ∃ (x75 : Int), v_5 = (pI x75) ∧
      CIf ((x75 : Int) == s.1)
      (CallP Tryz.prog 27 [(.raw (.pointer a0)), (pI (-1))] u_10 fun v_6 u_11 =>
        ∃ (x80 : Int), v_6 = (pI x80) ∧
        CIf ((x80 : Int) == (0))
        (CallP Tryz.prog 27 [(.raw (.pointer a0)), (pI ((a1n : Nat) : Int))] u_11 fun v_7 u_12 =>
          ∃ (x87 : Int), v_7 = (pI x87) ∧
          R (pB ((x87 : Int) == (0))) u_12)
        (R (pB false) u_11))
      (R (pB false) u_10)))
  ((0), (0)) u0

theorem G_ponderlaw12_right.ok (a0 : Option Addr) (a1 : Option Addr) (a1n a1c : Nat) (a2f : Fl) (a2 : List (List PV)) (u0 : Mem) (R : PV → Mem → Prop) : G_ponderlaw12_right.sh a0 a1 a1n a1c a2f a2 u0 R = VF ⟨Tryz.prog, 90, [], [(3, ⟨[(7, .one (.raw (.int .i64))), (8, .one (.raw (.int .i64)))], []⟩), (7, ⟨[(9, .one (.list 12)), (10, .one (.raw (.int .i64)))], []⟩)], [(11, ⟨[(9, .one (.list 12))], []⟩), (13, ⟨[(7, .one (.raw (.int .i64)))], []⟩)], [], [], [], [1, 12, 22, 31, 48, 59, 85]⟩ ((Tryz.f18.body).getD .skip) [.tmp 6] [(.raw (.pointer a0)), (.raw (.slice a1 a1n a1c)), (.list 12 a2f a2)] u0 R := by kernel_rfl

theorem G_ponderlaw12_right.c {a0 : Option Addr} {a1 : Option Addr} {a1n a1c : Nat} {a2f : Fl} {a2 : List (List PV)} {u0 : Mem} {K : PV → Mem → Prop} (h : G_ponderlaw12_right.sh a0 a1 a1n a1c a2f a2 u0 K) : CallP Tryz.prog 18 [(.raw (.pointer a0)), (.raw (.slice a1 a1n a1c)), (.list 12 a2f a2)] u0 K :=
  VF_sound (E := ⟨Tryz.prog, 90, [], [(3, ⟨[(7, .one (.raw (.int .i64))), (8, .one (.raw (.int .i64)))], []⟩), (7, ⟨[(9, .one (.list 12)), (10, .one (.raw (.int .i64)))], []⟩)], [(11, ⟨[(9, .one (.list 12))], []⟩), (13, ⟨[(7, .one (.raw (.int .i64)))], []⟩)], [], [], [], [1, 12, 22, 31, 48, 59, 85]⟩) (rs := [.tmp 6]) Tryz.func18 rfl rfl rfl (by kernel_rfl) (by kernel_rfl) (G_ponderlaw12_right.ok a0 a1 a1n a1c a2f a2 u0 K ▸ h)


/-- ponder/book.New[ponder/alpha.number,ponder/api.Elem] -/
def G_book_New_alpha_number_api_Elem.sh  (u0 : Mem) (R : PV → Mem → Prop) : Prop :=
  CallP Tryz.prog 48 [(.list 13 .nil [])] u0 fun v u =>
  ∃ (x1 : Option Addr), v = (.raw (.pointer x1)) ∧
  ∀ (b3 : Nat), u b3 = none →
  R (pP b3 0) (Mem.set u b3 (some (.cells 107 [(.raw (.pointer x1))])))

theorem G_book_New_alpha_number_api_Elem.ok  (u0 : Mem) (R : PV → Mem → Prop) : G_book_New_alpha_number_api_Elem.sh  u0 R = VF ⟨Tryz.prog, 4, [], [], [], [], [], [], []⟩ ((Tryz.f19.body).getD .skip) [.tmp 0] [] u0 R := by kernel_rfl

theorem G_book_New_alpha_number_api_Elem.c  {u0 : Mem} {K : PV → Mem → Prop} (h : G_book_New_alpha_number_api_Elem.sh  u0 K) : CallP Tryz.prog 19 [] u0 K :=
  VF_sound (E := ⟨Tryz.prog, 4, [], [], [], [], [], [], []⟩) (rs := [.tmp 0]) Tryz.func19 rfl rfl rfl (by kernel_rfl) (by kernel_rfl) (G_book_New_alpha_number_api_Elem.ok  u0 K ▸ h)


/-- ponder/book.New[ponder/alpha.number,ponder/alpha.memory] -/
def G_book_New_alpha_number_alpha_memory.sh  (u0 : Mem) (R : PV → Mem → Prop) : Prop :=
  CallP Tryz.prog 49 [(.list 10 .nil [])] u0 fun v u =>
  ∃ (x1 : Option Addr), v = (.raw (.pointer x1)) ∧
  ∀ (b3 : Nat), u b3 = none →
  R (pP b3 0) (Mem.set u b3 (some (.cells 113 [(.raw (.pointer x1))])))

theorem G_book_New_alpha_number_alpha_memory.ok  (u0 : Mem) (R : PV → Mem → Prop) : G_book_New_alpha_number_alpha_memory.sh  u0 R = VF ⟨Tryz.prog, 4, [], [], [], [], [], [], []⟩ ((Tryz.f20.body).getD .skip) [.tmp 0] [] u0 R := by kernel_rfl

theorem G_book_New_alpha_number_alpha_memory.c  {u0 : Mem} {K : PV → Mem → Prop} (h : G_book_New_alpha_number_alpha_memory.sh  u0 K) : CallP Tryz.prog 20 [] u0 K :=
  VF_sound (E := ⟨Tryz.prog, 4, [], [], [], [], [], [], []⟩) (rs := [.tmp 0]) Tryz.func20 rfl rfl rfl (by kernel_rfl) (by kernel_rfl) (G_book_New_alpha_number_alpha_memory.ok  u0 K ▸ h)


/-- ponder/ponderkeep.Size -/
def G_ponderkeep_Size.sh (a0f : Fl) (a0 : List (List PV)) (a1 : Int) (a2 : Int) (u0 : Mem) (R : PV → Mem → Prop) : Prop :=
  CIf (decide ((a2 : Int) > (20)))
  (R (pI (IntKind.wrap .i64 (a1 + (1)))) u0)
  (CJoin (α := Int) (fun J =>
      LoopI (α := Int × Int) (fun next s_1 u_1 =>
        CIf (decide ((s_1.2 : Int) < ((List.length a0 : Nat) : Int)))
        (CIf (decide ((s_1.1 : Int) ≤ a1))
          ((0 : Int) ≤ s_1.2 ∧ ∃ (r27 : List PV), (a0)[Int.toNat s_1.2]? = some r27 ∧
            ∃ (x29f : Fl) (x29 : List (List PV)), rowM r27 6 1 = some [(.list 7 x29f x29)] ∧
            CallP Tryz.prog 21 [(.list 7 x29f x29), (pI a1), (pI (IntKind.wrap .i64 (a2 + (1))))] u_1 fun v u_2 =>
            ∃ (x33 : Int), v = (pI x33) ∧
            next ((IntKind.wrap .i64 (s_1.1 + (IntKind.wrap .i64 ((1) + x33)))), (IntKind.wrap .i64 (s_1.2 + (1)))) u_2)
          (J s_1.1 u_1))
        (J s_1.1 u_1))
      ((0), (0)) u0)
    (fun s u =>
      R (pI (if (IntKind.wrap .i64 (a1 + (1))) < s then (IntKind.wrap .i64 (a1 + (1))) else s)) u))

theorem G_ponderkeep_Size.ok (a0f : Fl) (a0 : List (List PV)) (a1 : Int) (a2 : Int) (u0 : Mem) (R : PV → Mem → Prop) : G_ponderkeep_Size.sh a0f a0 a1 a2 u0 R = VF ⟨Tryz.prog, 40, [], [(5, ⟨[(7, .one (.raw (.int .i64))), (8, .one (.raw (.int .i64)))], []⟩)], [(8, ⟨[(7, .one (.raw (.int .i64)))], []⟩)], [], [], [], []⟩ ((Tryz.f21.body).getD .skip) [.tmp 6] [(.list 7 a0f a0), (pI a1), (pI a2)] u0 R := by kernel_rfl

theorem G_ponderkeep_Size.c {a0f : Fl} {a0 : List (List PV)} {a1 : Int} {a2 : Int} {u0 : Mem} {K : PV → Mem → Prop} (h : G_ponderkeep_Size.sh a0f a0 a1 a2 u0 K) : CallP Tryz.prog 21 [(.list 7 a0f a0), (pI a1), (pI a2)] u0 K :=
  VF_sound (E := ⟨Tryz.prog, 40, [], [(5, ⟨[(7, .one (.raw (.int .i64))), (8, .one (.raw (.int .i64)))], []⟩)], [(8, ⟨[(7, .one (.raw (.int .i64)))], []⟩)], [], [], [], []⟩) (rs := [.tmp 6]) Tryz.func21 rfl rfl rfl (by kernel_rfl) (by kernel_rfl) (G_ponderkeep_Size.ok a0f a0 a1 a2 u0 K ▸ h)


/-- ponder/ponderkeep.HeavyConds -/
def G_ponderkeep_HeavyConds.sh (a0f : Fl) (a0 : List (List PV)) (u0 : Mem) (R : PV → Mem → Prop) : Prop :=
  LoopI (α := Int) (fun next s u =>
    CIf (decide ((s : Int) < ((List.length a0 : Nat) : Int)))
    ((0 : Int) ≤ s ∧ ∃ (r13 : List PV), (a0)[Int.toNat s]? = some r13 ∧
      ∃ (x14a : Int), ∃ (x14b : Bool), ∃ (x14c : ByteArray), ∃ (x14df : Fl) (x14d : List (List PV)), ∃ (x14ef : Fl) (x14e : List (List PV)), ∃ (x14f : Bool), ∃ (x14gf : Fl) (x14g : List (List PV)), rowM r13 0 7 = some [(pI x14a), (pB x14b), (pS x14c), (.list 6 x14df x14d), (.list 6 x14ef x14e), (pB x14f), (.list 7 x14gf x14g)] ∧
      CIf (decide ((((ByteArray.size x14c : Nat) : Int) : Int) > (100)))
      (R (pB true) u)
      (CIf (decide ((((List.length x14d : Nat) : Int) : Int) > (10)))
        (R (pB true) u)
        (CIf (decide ((((List.length x14e : Nat) : Int) : Int) > (10)))
          (R (pB true) u)
          (CallP Tryz.prog 50 [(.list 6 x14df x14d)] u fun v u_1 =>
            ∃ (x34 : Bool), v = (pB x34) ∧
            CIf x34
            (R (pB true) u_1)
            (CallP Tryz.prog 50 [(.list 6 x14ef x14e)] u_1 fun v_1 u_2 =>
              ∃ (x39 : Bool), v_1 = (pB x39) ∧
              CIf x39
              (R (pB true) u_2)
              (CallP Tryz.prog 22 [(.list 7 x14gf x14g)] u_2 fun v_2 u_3 =>
                ∃ (x44 : Bool), v_2 = (pB x44) ∧
                CIf x44
                (R (pB true) u_3)
                (next (IntKind.wrap .i64 (s + (1))) u_3)))))))
    (R (pB false) u))
  (0) u0

theorem G_ponderkeep_HeavyConds.ok (a0f : Fl) (a0 : List (List PV)) (u0 : Mem) (R : PV → Mem → Prop) : G_ponderkeep_HeavyConds.sh a0f a0 u0 R = VF ⟨Tryz.prog, 46, [4], [(2, ⟨[(3, .one (.raw (.int .i64)))], []⟩)], [], [], [], [], []⟩ ((Tryz.f22.body).getD .skip) [.tmp 2] [(.list 7 a0f a0)] u0 R := by kernel_rfl

theorem G_ponderkeep_HeavyConds.c {a0f : Fl} {a0 : List (List PV)} {u0 : Mem} {K : PV → Mem → Prop} (h : G_ponderkeep_HeavyConds.sh a0f a0 u0 K) : CallP Tryz.prog 22 [(.list 7 a0f a0)] u0 K :=
  VF_sound (E := ⟨Tryz.prog, 46, [4], [(2, ⟨[(3, .one (.raw (.int .i64)))], []⟩)], [], [], [], [], []⟩) (rs := [.tmp 2]) Tryz.func22 rfl rfl rfl (by kernel_rfl) (by kernel_rfl) (G_ponderkeep_HeavyConds.ok a0f a0 u0 K ▸ h)


/-- ponder/ponderlaw10.Light -/
def G_ponderlaw10_Light.sh (a0f : Fl) (a0 : List (List PV)) (a1 : Int) (u0 : Mem) (R : PV → Mem → Prop) : Prop :=
  CallP Tryz.prog 51 [(.list 12 a0f a0), (pI a1)] u0 fun v u =>
  ∃ (x7 : Bool), v = (pB x7) ∧
  R (pB x7) u

theorem G_ponderlaw10_Light.ok (a0f : Fl) (a0 : List (List PV)) (a1 : Int) (u0 : Mem) (R : PV → Mem → Prop) : G_ponderlaw10_Light.sh a0f a0 a1 u0 R = VF ⟨Tryz.prog, 8, [], [], [], [], [], [], []⟩ ((Tryz.f23.body).getD .skip) [.tmp 4] [(.list 12 a0f a0), (pI a1)] u0 R := by kernel_rfl

theorem G_ponderlaw10_Light.c {a0f : Fl} {a0 : List (List PV)} {a1 : Int} {u0 : Mem} {K : PV → Mem → Prop} (h : G_ponderlaw10_Light.sh a0f a0 a1 u0 K) : CallP Tryz.prog 23 [(.list 12 a0f a0), (pI a1)] u0 K :=
  VF_sound (E := ⟨Tryz.prog, 8, [], [], [], [], [], [], []⟩) (rs := [.tmp 4]) Tryz.func23 rfl rfl rfl (by kernel_rfl) (by kernel_rfl) (G_ponderlaw10_Light.ok a0f a0 a1 u0 K ▸ h)


/-- ponder/ponderlaw09.W -/
def G_ponderlaw09_W.sh (a0 : ByteArray) (u0 : Mem) (R : PV → Mem → Prop) : Prop :=
  R (.agg [(pI (3)), (pS a0), (pI (0))]) u0

theorem G_ponderlaw09_W.ok (a0 : ByteArray) (u0 : Mem) (R : PV → Mem → Prop) : G_ponderlaw09_W.sh a0 u0 R = VF ⟨Tryz.prog, 5, [2], [], [], [], [], [], []⟩ ((Tryz.f24.body).getD .skip) [.cell 2 34] [(pS a0)] u0 R := by kernel_rfl

theorem G_ponderlaw09_W.c {a0 : ByteArray} {u0 : Mem} {K : PV → Mem → Prop} (h : G_ponderlaw09_W.sh a0 u0 K) : CallP Tryz.prog 24 [(pS a0)] u0 K :=
  VF_sound (E := ⟨Tryz.prog, 5, [2], [], [], [], [], [], []⟩) (rs := [.cell 2 34]) Tryz.func24 rfl rfl rfl (by kernel_rfl) (by kernel_rfl) (G_ponderlaw09_W.ok a0 u0 K ▸ h)


/-- ponder/ponderlaw09.N -/
def G_ponderlaw09_N.sh (a0 : Int) (u0 : Mem) (R : PV → Mem → Prop) : Prop :=
  R (.agg [(pI (2)), (pS ⟨#[]⟩), (pI a0)]) u0

theorem G_ponderlaw09_N.ok (a0 : Int) (u0 : Mem) (R : PV → Mem → Prop) : G_ponderlaw09_N.sh a0 u0 R = VF ⟨Tryz.prog, 5, [2], [], [], [], [], [], []⟩ ((Tryz.f25.body).getD .skip) [.cell 2 34] [(pI a0)] u0 R := by kernel_rfl

theorem G_ponderlaw09_N.c {a0 : Int} {u0 : Mem} {K : PV → Mem → Prop} (h : G_ponderlaw09_N.sh a0 u0 K) : CallP Tryz.prog 25 [(pI a0)] u0 K :=
  VF_sound (E := ⟨Tryz.prog, 5, [2], [], [], [], [], [], []⟩) (rs := [.cell 2 34]) Tryz.func25 rfl rfl rfl (by kernel_rfl) (by kernel_rfl) (G_ponderlaw09_N.ok a0 u0 K ▸ h)


/-- (*ponder/alpha.Net).Len -/
def G_alpha_Net_Len.sh (a0 : Option Addr) (u0 : Mem) (R : PV → Mem → Prop) : Prop :=
  nn a0
  (withPtrP (.raw (.pointer a0)) fun b o =>
    ∃ (x6 : Option Addr), rdM u0 b (o + 1) 1 = some [(.raw (.pointer x6))] ∧
    CallP Tryz.prog 52 [(.raw (.pointer x6))] u0 fun v u =>
    ∃ (x7 : Int), v = (pI x7) ∧
    R (pI x7) u)

theorem G_alpha_Net_Len.ok (a0 : Option Addr) (u0 : Mem) (R : PV → Mem → Prop) : G_alpha_Net_Len.sh a0 u0 R = VF ⟨Tryz.prog, 8, [], [], [], [], [], [], []⟩ ((Tryz.f26.body).getD .skip) [.tmp 2] [(.raw (.pointer a0))] u0 R := by kernel_rfl

theorem G_alpha_Net_Len.c {a0 : Option Addr} {u0 : Mem} {K : PV → Mem → Prop} (h : G_alpha_Net_Len.sh a0 u0 K) : CallP Tryz.prog 26 [(.raw (.pointer a0))] u0 K :=
  VF_sound (E := ⟨Tryz.prog, 8, [], [], [], [], [], [], []⟩) (rs := [.tmp 2]) Tryz.func26 rfl rfl rfl (by kernel_rfl) (by kernel_rfl) (G_alpha_Net_Len.ok a0 u0 K ▸ h)


/-- (*ponder/alpha.Net).Users -/
def G_alpha_Net_Users.sh (a0 : Option Addr) (a1 : Int) (u0 : Mem) (R : PV → Mem → Prop) : Prop :=
  nn a0
  (withPtrP (.raw (.pointer a0)) fun b o =>
    ∃ (x11 : Option Addr), rdM u0 b (o + 1) 1 = some [(.raw (.pointer x11))] ∧
    CallP Tryz.prog 38 [(.raw (.pointer x11)), (pI a1)] u0 fun v u =>
    ∃ (x13pa : Int), ∃ (x13pb : Bool), ∃ (x13pc : ByteArray), ∃ (x13pdf : Fl) (x13pd : List (List PV)), ∃ (x13pef : Fl) (x13pe : List (List PV)), ∃ (x13pf : Bool), ∃ (x13pgf : Fl) (x13pg : List (List PV)), ∃ (x13ph : Int), ∃ (x13pi : Option Addr), ∃ (x13q : Bool), v = (.tup [(.agg [(pI x13pa), (pB x13pb), (pS x13pc), (.list 6 x13pdf x13pd), (.list 6 x13pef x13pe), (pB x13pf), (.list 7 x13pgf x13pg), (pI x13ph), (.raw (.pointer x13pi))]), (pB x13q)]) ∧
    R (pI x13ph) u)

theorem G_alpha_Net_Users.ok (a0 : Option Addr) (a1 : Int) (u0 : Mem) (R : PV → Mem → Prop) : G_alpha_Net_Users.sh a0 a1 u0 R = VF ⟨Tryz.prog, 18, [5], [], [], [], [], [], []⟩ ((Tryz.f27.body).getD .skip) [.tmp 4] [(.raw (.pointer a0)), (pI a1)] u0 R := by kernel_rfl

theorem G_alpha_Net_Users.c {a0 : Option Addr} {a1 : Int} {u0 : Mem} {K : PV → Mem → Prop} (h : G_alpha_Net_Users.sh a0 a1 u0 K) : CallP Tryz.prog 27 [(.raw (.pointer a0)), (pI a1)] u0 K :=
  VF_sound (E := ⟨Tryz.prog, 18, [5], [], [], [], [], [], []⟩) (rs := [.tmp 4]) Tryz.func27 rfl rfl rfl (by kernel_rfl) (by kernel_rfl) (G_alpha_Net_Users.ok a0 a1 u0 K ▸ h)


/-- ponder/ponderkeep.Cond -/
def G_ponderkeep_Cond.sh (a0a : Int) (a0b : Bool) (a0c : ByteArray) (a0df : Fl) (a0d : List (List PV)) (a0ef : Fl) (a0e : List (List PV)) (a0f : Bool) (a0gf : Fl) (a0g : List (List PV)) (a1a : Int) (a1b : Bool) (a1c : ByteArray) (a1df : Fl) (a1d : List (List PV)) (a1ef : Fl) (a1e : List (List PV)) (a1f : Bool) (a1gf : Fl) (a1g : List (List PV)) (u0 : Mem) (R : PV → Mem → Prop) : Prop :=
  CIf ((a0a : Int) == a1a)
  (CIf (a0b == a1b)
    (CIf (strEq a0c a1c)
      (CIf (a0f == a1f)
        (CallP Tryz.prog 53 [(.list 6 a0df a0d), (.list 6 a1df a1d)] u0 fun v u =>
          ∃ (x36 : Bool), v = (pB x36) ∧
          CIf x36
          (CallP Tryz.prog 53 [(.list 6 a0ef a0e), (.list 6 a1ef a1e)] u fun v_1 u_1 =>
            ∃ (x43 : Bool), v_1 = (pB x43) ∧
            CIf x43
            (CallP Tryz.prog 54 [(.list 7 a0gf a0g), (.list 7 a1gf a1g)] u_1 fun v_2 u_2 =>
              ∃ (x50 : Bool), v_2 = (pB x50) ∧
              R (pB x50) u_2)
            (R (pB false) u_1))
          (R (pB false) u))
        (R (pB false) u0))
      (R (pB false) u0))
    (R (pB false) u0))
  (R (pB false) u0)

theorem G_ponderkeep_Cond.ok (a0a : Int) (a0b : Bool) (a0c : ByteArray) (a0df : Fl) (a0d : List (List PV)) (a0ef : Fl) (a0e : List (List PV)) (a0f : Bool) (a0gf : Fl) (a0g : List (List PV)) (a1a : Int) (a1b : Bool) (a1c : ByteArray) (a1df : Fl) (a1d : List (List PV)) (a1ef : Fl) (a1e : List (List PV)) (a1f : Bool) (a1gf : Fl) (a1g : List (List PV)) (u0 : Mem) (R : PV → Mem → Prop) : G_ponderkeep_Cond.sh a0a a0b a0c a0df a0d a0ef a0e a0f a0gf a0g a1a a1b a1c a1df a1d a1ef a1e a1f a1gf a1g u0 R = VF ⟨Tryz.prog, 52, [2, 3], [], [], [], [], [], []⟩ ((Tryz.f28.body).getD .skip) [.tmp 4] [(.agg [(pI a0a), (pB a0b), (pS a0c), (.list 6 a0df a0d), (.list 6 a0ef a0e), (pB a0f), (.list 7 a0gf a0g)]), (.agg [(pI a1a), (pB a1b), (pS a1c), (.list 6 a1df a1d), (.list 6 a1ef a1e), (pB a1f), (.list 7 a1gf a1g)])] u0 R := by kernel_rfl

theorem G_ponderkeep_Cond.c {a0a : Int} {a0b : Bool} {a0c : ByteArray} {a0df : Fl} {a0d : List (List PV)} {a0ef : Fl} {a0e : List (List PV)} {a0f : Bool} {a0gf : Fl} {a0g : List (List PV)} {a1a : Int} {a1b : Bool} {a1c : ByteArray} {a1df : Fl} {a1d : List (List PV)} {a1ef : Fl} {a1e : List (List PV)} {a1f : Bool} {a1gf : Fl} {a1g : List (List PV)} {u0 : Mem} {K : PV → Mem → Prop} (h : G_ponderkeep_Cond.sh a0a a0b a0c a0df a0d a0ef a0e a0f a0gf a0g a1a a1b a1c a1df a1d a1ef a1e a1f a1gf a1g u0 K) : CallP Tryz.prog 28 [(.agg [(pI a0a), (pB a0b), (pS a0c), (.list 6 a0df a0d), (.list 6 a0ef a0e), (pB a0f), (.list 7 a0gf a0g)]), (.agg [(pI a1a), (pB a1b), (pS a1c), (.list 6 a1df a1d), (.list 6 a1ef a1e), (pB a1f), (.list 7 a1gf a1g)])] u0 K :=
  VF_sound (E := ⟨Tryz.prog, 52, [2, 3], [], [], [], [], [], []⟩) (rs := [.tmp 4]) Tryz.func28 rfl rfl rfl (by kernel_rfl) (by kernel_rfl) (G_ponderkeep_Cond.ok a0a a0b a0c a0df a0d a0ef a0e a0f a0gf a0g a1a a1b a1c a1df a1d a1ef a1e a1f a1gf a1g u0 K ▸ h)


/-- ponder/ponderref10.bare -/
def G_ponderref10_bare.sh (a0f : Fl) (a0 : List (List PV)) (u0 : Mem) (R : PV → Mem → Prop) : Prop :=
  LoopI (α := (Fl × List (List PV)) × Int) (fun next s u =>
    CIf (decide ((s.2 : Int) < ((List.length a0 : Nat) : Int)))
    ((0 : Int) ≤ s.2 ∧ ∃ (r14 : List PV), (a0)[Int.toNat s.2]? = some r14 ∧
      ∃ (x16 : ByteArray), rowM r14 1 1 = some [(pS x16)] ∧
      CIf (strEq x16 ⟨#[]⟩)
      ((0 : Int) ≤ s.2 ∧ ∃ (r20 : List PV), (a0)[Int.toNat s.2]? = some r20 ∧
        ∃ (x21a : Int), ∃ (x21b : ByteArray), ∃ (x21c : Int), ∃ (x21d : ByteArray), ∃ (x21e : Int), ∃ (x21ff : Fl) (x21f : List (List PV)), rowM r20 0 6 = some [(pI x21a), (pS x21b), (pI x21c), (pS x21d), (pI x21e), (.list 3 x21ff x21f)] ∧
        (0 : Int) ≤ s.2 ∧ ∃ (r24 : List PV), (a0)[Int.toNat s.2]? = some r24 ∧
        ∃ (x26f : Fl) (x26 : List (List PV)), rowM r24 5 1 = some [(.list 3 x26f x26)] ∧
        appL false 3 32 .nil [] x26 u fun f27 u_1 =>
        appL false 6 80 s.1.1 s.1.2 [[(pI x21a), (pS x21b), (pI x21c), (pS x21d), (pI x21e), (.list 3 .sh ([] ++ x26))]] u_1 fun f32 u_2 =>
        next ((f32, (s.1.2 ++ [[(pI x21a), (pS x21b), (pI x21c), (pS x21d), (pI x21e), (.list 3 .sh ([] ++ x26))]])), (IntKind.wrap .i64 (s.2 + (1)))) u_2)
      (next ((s.1.1, s.1.2), (IntKind.wrap .i64 (s.2 + (1)))) u))
    (R (.list 6 s.1.1 s.1.2) u))
  ((.nil, []), (0)) u0

theorem G_ponderref10_bare.ok (a0f : Fl) (a0 : List (List PV)) (u0 : Mem) (R : PV → Mem → Prop) : G_ponderref10_bare.sh a0f a0 u0 R = VF ⟨Tryz.prog, 34, [5], [(3, ⟨[(3, .one (.list 6)), (4, .one (.raw (.int .i64)))], []⟩)], [], [], [], [], []⟩ ((Tryz.f29.body).getD .skip) [.tmp 2] [(.list 6 a0f a0)] u0 R := by kernel_rfl

theorem G_ponderref10_bare.c {a0f : Fl} {a0 : List (List PV)} {u0 : Mem} {K : PV → Mem → Prop} (h : G_ponderref10_bare.sh a0f a0 u0 K) : CallP Tryz.prog 29 [(.list 6 a0f a0)] u0 K :=
  VF_sound (E := ⟨Tryz.prog, 34, [5], [(3, ⟨[(3, .one (.list 6)), (4, .one (.raw (.int .i64)))], []⟩)], [], [], [], [], []⟩) (rs := [.tmp 2]) Tryz.func29 rfl rfl rfl (by kernel_rfl) (by kernel_rfl) (G_ponderref10_bare.ok a0f a0 u0 K ▸ h)


/-- ponder/alpha.Bare -/
def G_alpha_Bare.sh (a0a : Int) (a0b : Bool) (a0c : ByteArray) (a0df : Fl) (a0d : List (List PV)) (a0ef : Fl) (a0e : List (List PV)) (a0f : Bool) (a0gf : Fl) (a0g : List (List PV)) (u0 : Mem) (R : PV → Mem → Prop) : Prop :=
  CallQ Tryz.prog 55 [(.list 6 a0df a0d)] u0 fun v u =>
  ∃ (x9f : Fl) (x9 : List (List PV)), v = (.list 6 x9f x9) ∧
  CallQ Tryz.prog 55 [(.list 6 a0ef a0e)] (Mem.or u0 u) fun v_1 u_1 =>
  ∃ (x12f : Fl) (x12 : List (List PV)), v_1 = (.list 6 x12f x12) ∧
  R (.agg [(pI (1)), (pB a0b), (pS ⟨#[]⟩), (.list 6 x9f x9), (.list 6 x12f x12), (pB a0f), (.list 7 .nil [])]) (Mem.or (Mem.or u0 u) u_1)

theorem G_alpha_Bare.ok (a0a : Int) (a0b : Bool) (a0c : ByteArray) (a0df : Fl) (a0d : List (List PV)) (a0ef : Fl) (a0e : List (List PV)) (a0f : Bool) (a0gf : Fl) (a0g : List (List PV)) (u0 : Mem) (R : PV → Mem → Prop) : G_alpha_Bare.sh a0a a0b a0c a0df a0d a0ef a0e a0f a0gf a0g u0 R = VF ⟨Tryz.prog, 14, [1, 2], [], [], [], [], [], []⟩ ((Tryz.f30.body).getD .skip) [.cell 2 32] [(.agg [(pI a0a), (pB a0b), (pS a0c), (.list 6 a0df a0d), (.list 6 a0ef a0e), (pB a0f), (.list 7 a0gf a0g)])] u0 R := by kernel_rfl

theorem G_alpha_Bare.c {a0a : Int} {a0b : Bool} {a0c : ByteArray} {a0df : Fl} {a0d : List (List PV)} {a0ef : Fl} {a0e : List (List PV)} {a0f : Bool} {a0gf : Fl} {a0g : List (List PV)} {u0 : Mem} {K : PV → Mem → Prop} (h : G_alpha_Bare.sh a0a a0b a0c a0df a0d a0ef a0e a0f a0gf a0g u0 K) : CallP Tryz.prog 30 [(.agg [(pI a0a), (pB a0b), (pS a0c), (.list 6 a0df a0d), (.list 6 a0ef a0e), (pB a0f), (.list 7 a0gf a0g)])] u0 K :=
  VF_sound (E := ⟨Tryz.prog, 14, [1, 2], [], [], [], [], [], []⟩) (rs := [.cell 2 32]) Tryz.func30 rfl rfl rfl (by kernel_rfl) (by kernel_rfl) (G_alpha_Bare.ok a0a a0b a0c a0df a0d a0ef a0e a0f a0gf a0g u0 K ▸ h)


/-- (*ponder/book.Map[ponder/alpha.number, ponder/alpha.memory]).All -/
def G_book_Map_alpha_number_alpha_memory_All.sh (a0 : Option Addr) (u0 : Mem) (R : PV → Mem → Prop) : Prop :=
  R (.fn (.func 56) [] [(.fptr [(.raw (.pointer a0))] 0)]) u0

theorem G_book_Map_alpha_number_alpha_memory_All.ok (a0 : Option Addr) (u0 : Mem) (R : PV → Mem → Prop) : G_book_Map_alpha_number_alpha_memory_All.sh a0 u0 R = VF ⟨Tryz.prog, 4, [], [], [], [], [1], [], []⟩ ((Tryz.f31.body).getD .skip) [.tmp 2] [(.raw (.pointer a0))] u0 R := by kernel_rfl

theorem G_book_Map_alpha_number_alpha_memory_All.c {a0 : Option Addr} {u0 : Mem} {K : PV → Mem → Prop} (h : G_book_Map_alpha_number_alpha_memory_All.sh a0 u0 K) : CallP Tryz.prog 31 [(.raw (.pointer a0))] u0 K :=
  VF_sound (E := ⟨Tryz.prog, 4, [], [], [], [], [1], [], []⟩) (rs := [.tmp 2]) Tryz.func31 rfl rfl rfl (by kernel_rfl) (by kernel_rfl) (G_book_Map_alpha_number_alpha_memory_All.ok a0 u0 K ▸ h)


/-- ponder/alpha.same -/
def G_alpha_same.sh (a0f : Fl) (a0 : List (List PV)) (a1f : Fl) (a1 : List (List PV)) (u0 : Mem) (R : PV → Mem → Prop) : Prop :=
  CIf ((((List.length a0 : Nat) : Int) : Int) != ((List.length a1 : Nat) : Int))
  (R (pB false) u0)
  (LoopI (α := Int) (fun next s u =>
      CIf (decide ((s : Int) < ((List.length a0 : Nat) : Int)))
      ((0 : Int) ≤ s ∧ ∃ (r20 : List PV), (a0)[Int.toNat s]? = some r20 ∧
        ∃ (x21a : Int), ∃ (x21b : ByteArray), ∃ (x21c : Int), ∃ (x21d : ByteArray), ∃ (x21e : Int), ∃ (x21ff : Fl) (x21f : List (List PV)), rowM r20 0 6 = some [(pI x21a), (pS x21b), (pI x21c), (pS x21d), (pI x21e), (.list 3 x21ff x21f)] ∧
        (0 : Int) ≤ s ∧ ∃ (r24 : List PV), (a1)[Int.toNat s]? = some r24 ∧
        ∃ (x25a : Int), ∃ (x25b : ByteArray), ∃ (x25c : Int), ∃ (x25d : ByteArray), ∃ (x25e : Int), ∃ (x25ff : Fl) (x25f : List (List PV)), rowM r24 0 6 = some [(pI x25a), (pS x25b), (pI x25c), (pS x25d), (pI x25e), (.list 3 x25ff x25f)] ∧
        CIf ((x21a : Int) != x25a)
        (R (pB false) u)
        (CIf (!strEq x21b x25b)
          (R (pB false) u)
          (CIf (!((x21c == x25c) && (strEq x21d x25d && ((x21e == x25e) && true))))
            (R (pB false) u)
            (CIf ((((List.length x21f : Nat) : Int) : Int) != ((List.length x25f : Nat) : Int))
              (R (pB false) u)
              (LoopI (α := Int) (fun next_1 s_1 u_1 =>
                  CIf (decide ((s_1 : Int) < ((List.length x21f : Nat) : Int)))
                  ((0 : Int) ≤ s_1 ∧ ∃ (r60 : List PV), (x21f)[Int.toNat s_1]? = some r60 ∧
                    ∃ (x61a : Int), ∃ (x61b : ByteArray), ∃ (x61c : Int), rowM r60 0 3 = some [(pI x61a), (pS x61b), (pI x61c)] ∧
                    (0 : Int) ≤ s_1 ∧ ∃ (r66 : List PV), (x25f)[Int.toNat s_1]? = some r66 ∧
                    ∃ (x67a : Int), ∃ (x67b : ByteArray), ∃ (x67c : Int), rowM r66 0 3 = some [(pI x67a), (pS x67b), (pI x67c)] ∧
                    CIf (!((x61a == x67a) && (strEq x61b x67b && ((x61c == x67c) && true))))
                    (R (pB false) u_1)
                    (next_1 (IntKind.wrap .i64 (s_1 + (1))) u_1))
                  (next (IntKind.wrap .i64 (s + (1))) u_1))
                (0) u)))))
      (R (pB true) u))
    (0) u0)

theorem G_alpha_same.ok (a0f : Fl) (a0 : List (List PV)) (a1f : Fl) (a1 : List (List PV)) (u0 : Mem) (R : PV → Mem → Prop) : G_alpha_same.sh a0f a0 a1f a1 u0 R = VF ⟨Tryz.prog, 71, [6, 7, 9], [(4, ⟨[(17, .one (.raw (.int .i64)))], []⟩), (10, ⟨[(57, .one (.raw (.int .i64)))], []⟩)], [], [], [], [], []⟩ ((Tryz.f32.body).getD .skip) [.tmp 4] [(.list 6 a0f a0), (.list 6 a1f a1)] u0 R := by kernel_rfl

theorem G_alpha_same.c {a0f : Fl} {a0 : List (List PV)} {a1f : Fl} {a1 : List (List PV)} {u0 : Mem} {K : PV → Mem → Prop} (h : G_alpha_same.sh a0f a0 a1f a1 u0 K) : CallP Tryz.prog 32 [(.list 6 a0f a0), (.list 6 a1f a1)] u0 K :=
  VF_sound (E := ⟨Tryz.prog, 71, [6, 7, 9], [(4, ⟨[(17, .one (.raw (.int .i64)))], []⟩), (10, ⟨[(57, .one (.raw (.int .i64)))], []⟩)], [], [], [], [], []⟩) (rs := [.tmp 4]) Tryz.func32 rfl rfl rfl (by kernel_rfl) (by kernel_rfl) (G_alpha_same.ok a0f a0 a1f a1 u0 K ▸ h)


/-- (*ponder/book.Map[ponder/alpha.number, ponder/alpha.memory]).Put -/
def G_book_Map_alpha_number_alpha_memory_Put.sh (a0 : Option Addr) (a1 : Int) (a2a : Int) (a2b : Bool) (a2c : ByteArray) (a2df : Fl) (a2d : List (List PV)) (a2ef : Fl) (a2e : List (List PV)) (a2f : Bool) (a2gf : Fl) (a2g : List (List PV)) (a2h : Int) (a2i : Option Addr) (u0 : Mem) (R : PV → Mem → Prop) : Prop :=
  CIf (Option.isNone a0)
  (R (pB false) u0)
  (CJoin (α := Option Addr × Bool) (fun J =>
      nn a0
      (withPtrP (.raw (.pointer a0)) fun b o =>
        ∃ (x15 : Option Addr), rdM u0 b o 1 = some [(.raw (.pointer x15))] ∧
        (CallQ Tryz.prog 59 [(pI a1)] u0 fun v u_1 =>
          ∃ (x17a : Int), ∃ (x17b : Int), ∃ (x17c : Bool), ∃ (x17d : ByteArray), ∃ (x17ef : Fl) (x17e : List (List PV)), ∃ (x17ff : Fl) (x17f : List (List PV)), ∃ (x17g : Bool), ∃ (x17hf : Fl) (x17h : List (List PV)), ∃ (x17i : Int), ∃ (x17j : Option Addr), v = (.agg [(pI x17a), (pI x17b), (pB x17c), (pS x17d), (.list 6 x17ef x17e), (.list 6 x17ff x17f), (pB x17g), (.list 7 x17hf x17h), (pI x17i), (.raw (.pointer x17j))]) ∧
          (CallP Tryz.prog 58 [(.raw (.pointer x15)), (.agg [(pI x17a), (pI x17b), (pB x17c), (pS x17d), (.list 6 .sh x17e), (.list 6 .sh x17f), (pB x17g), (.list 7 .sh x17h), (pI x17i), (.raw (.pointer x17j))])] (Mem.or u0 u_1) fun v_1 u_2 =>
            ∃ (x18pa : Int), ∃ (x18pb : Int), ∃ (x18pc : Bool), ∃ (x18pd : ByteArray), ∃ (x18pef : Fl) (x18pe : List (List PV)), ∃ (x18pff : Fl) (x18pf : List (List PV)), ∃ (x18pg : Bool), ∃ (x18phf : Fl) (x18ph : List (List PV)), ∃ (x18pi : Int), ∃ (x18pj : Option Addr), ∃ (x18q : Bool), v_1 = (.tup [(.agg [(pI x18pa), (pI x18pb), (pB x18pc), (pS x18pd), (.list 6 x18pef x18pe), (.list 6 x18pff x18pf), (pB x18pg), (.list 7 x18phf x18ph), (pI x18pi), (.raw (.pointer x18pj))]), (pB x18q)]) ∧
            ∀ (b7 : Nat), u_2 b7 = none →
            stM b7 0 [(pI x18pa), (pI x18pb), (pB x18pc), (pS x18pd), (.list 6 x18pef x18pe), (.list 6 x18pff x18pf), (pB x18pg), (.list 7 x18phf x18ph), (pI x18pi), (.raw (.pointer x18pj))] (Mem.set u_2 b7 (some (.cells 111 [(pI (0)), (pI (0)), (pB false), (pS ⟨#[]⟩), (.list 6 .nil []), (.list 6 .nil []), (pB false), (.list 7 .nil []), (pI (0)), (.raw (.pointer none))]))) fun u_3 =>
            J ((some ⟨b7, 0, none⟩), x18q) u_3) ∧
          (∀ (b7_1 : Nat), (Mem.or u0 u_1) b7_1 = none →
            CallP Tryz.prog 58 [(.raw (.pointer x15)), (.agg [(pI x17a), (pI x17b), (pB x17c), (pS x17d), (.list 6 .sh x17e), (.list 6 .sh x17f), (pB x17g), (.list 7 .sh x17h), (pI x17i), (.raw (.pointer x17j))])] (Mem.set (Mem.or u0 u_1) b7_1 (some (.cells 111 [(pI (0)), (pI (0)), (pB false), (pS ⟨#[]⟩), (.list 6 .nil []), (.list 6 .nil []), (pB false), (.list 7 .nil []), (pI (0)), (.raw (.pointer none))]))) fun v_2 u_4 =>
            ∃ (x18pa_1 : Int), ∃ (x18pb_1 : Int), ∃ (x18pc_1 : Bool), ∃ (x18pd_1 : ByteArray), ∃ (x18pe_1f : Fl) (x18pe_1 : List (List PV)), ∃ (x18pf_1f : Fl) (x18pf_1 : List (List PV)), ∃ (x18pg_1 : Bool), ∃ (x18ph_1f : Fl) (x18ph_1 : List (List PV)), ∃ (x18pi_1 : Int), ∃ (x18pj_1 : Option Addr), ∃ (x18q_1 : Bool), v_2 = (.tup [(.agg [(pI x18pa_1), (pI x18pb_1), (pB x18pc_1), (pS x18pd_1), (.list 6 x18pe_1f x18pe_1), (.list 6 x18pf_1f x18pf_1), (pB x18pg_1), (.list 7 x18ph_1f x18ph_1), (pI x18pi_1), (.raw (.pointer x18pj_1))]), (pB x18q_1)]) ∧
            stM b7_1 0 [(pI x18pa_1), (pI x18pb_1), (pB x18pc_1), (pS x18pd_1), (.list 6 x18pe_1f x18pe_1), (.list 6 x18pf_1f x18pf_1), (pB x18pg_1), (.list 7 x18ph_1f x18ph_1), (pI x18pi_1), (.raw (.pointer x18pj_1))] u_4 fun u_5 =>
            J ((some ⟨b7_1, 0, none⟩), x18q_1) u_5)) ∧
        (∀ (b7_2 : Nat), u0 b7_2 = none →
          CallQ Tryz.prog 59 [(pI a1)] (Mem.set u0 b7_2 (some (.cells 111 [(pI (0)), (pI (0)), (pB false), (pS ⟨#[]⟩), (.list 6 .nil []), (.list 6 .nil []), (pB false), (.list 7 .nil []), (pI (0)), (.raw (.pointer none))]))) fun v_3 u_6 =>
          ∃ (x17a_1 : Int), ∃ (x17b_1 : Int), ∃ (x17c_1 : Bool), ∃ (x17d_1 : ByteArray), ∃ (x17e_1f : Fl) (x17e_1 : List (List PV)), ∃ (x17f_1f : Fl) (x17f_1 : List (List PV)), ∃ (x17g_1 : Bool), ∃ (x17h_1f : Fl) (x17h_1 : List (List PV)), ∃ (x17i_1 : Int), ∃ (x17j_1 : Option Addr), v_3 = (.agg [(pI x17a_1), (pI x17b_1), (pB x17c_1), (pS x17d_1), (.list 6 x17e_1f x17e_1), (.list 6 x17f_1f x17f_1), (pB x17g_1), (.list 7 x17h_1f x17h_1), (pI x17i_1), (.raw (.pointer x17j_1))]) ∧
          CallP Tryz.prog 58 [(.raw (.pointer x15)), (.agg [(pI x17a_1), (pI x17b_1), (pB x17c_1), (pS x17d_1), (.list 6 .sh x17e_1), (.list 6 .sh x17f_1), (pB x17g_1), (.list 7 .sh x17h_1), (pI x17i_1), (.raw (.pointer x17j_1))])] (Mem.or (Mem.set u0 b7_2 (some (.cells 111 [(pI (0)), (pI (0)), (pB false), (pS ⟨#[]⟩), (.list 6 .nil []), (.list 6 .nil []), (pB false), (.list 7 .nil []), (pI (0)), (.raw (.pointer none))]))) u_6) fun v_4 u_7 =>
          ∃ (x18pa_2 : Int), ∃ (x18pb_2 : Int), ∃ (x18pc_2 : Bool), ∃ (x18pd_2 : ByteArray), ∃ (x18pe_2f : Fl) (x18pe_2 : List (List PV)), ∃ (x18pf_2f : Fl) (x18pf_2 : List (List PV)), ∃ (x18pg_2 : Bool), ∃ (x18ph_2f : Fl) (x18ph_2 : List (List PV)), ∃ (x18pi_2 : Int), ∃ (x18pj_2 : Option Addr), ∃ (x18q_2 : Bool), v_4 = (.tup [(.agg [(pI x18pa_2), (pI x18pb_2), (pB x18pc_2), (pS x18pd_2), (.list 6 x18pe_2f x18pe_2), (.list 6 x18pf_2f x18pf_2), (pB x18pg_2), (.list 7 x18ph_2f x18ph_2), (pI x18pi_2), (.raw (.pointer x18pj_2))]), (pB x18q_2)]) ∧
          stM b7_2 0 [(pI x18pa_2), (pI x18pb_2), (pB x18pc_2), (pS x18pd_2), (.list 6 x18pe_2f x18pe_2), (.list 6 x18pf_2f x18pf_2), (pB x18pg_2), (.list 7 x18ph_2f x18ph_2), (pI x18pi_2), (.raw (.pointer x18pj_2))] u_7 fun u_8 =>
          J ((some ⟨b7_2, 0, none⟩), x18q_2) u_8)))
    (fun s u =>
      CIf (!s.2)
      (nn a0
        (withPtrP (.raw (.pointer a0)) fun b_1 o_1 =>
          ∃ (x26 : Option Addr), rdM u b_1 o_1 1 = some [(.raw (.pointer x26))] ∧
          CallP Tryz.prog 60 [(.raw (.pointer x26)), (.agg [(pI a1), (pI a2a), (pB a2b), (pS a2c), (.list 6 .sh a2d), (.list 6 .sh a2e), (pB a2f), (.list 7 .sh a2g), (pI a2h), (.raw (.pointer a2i))])] u fun v_5 u_9 =>
          ∃ (x30 : Bool), v_5 = (pB x30) ∧
          R (pB x30) u_9))
      (nn a0
        (withPtrP (.raw (.pointer a0)) fun b_2 o_2 =>
          ∃ (x34 : Option Addr), rdM u b_2 o_2 1 = some [(.raw (.pointer x34))] ∧
          withPtrP (.raw (.pointer s.1)) fun b_3 o_3 =>
          ∃ (x35a : Int), ∃ (x35b : Int), ∃ (x35c : Bool), ∃ (x35d : ByteArray), ∃ (x35ef : Fl) (x35e : List (List PV)), ∃ (x35ff : Fl) (x35f : List (List PV)), ∃ (x35g : Bool), ∃ (x35hf : Fl) (x35h : List (List PV)), ∃ (x35i : Int), ∃ (x35j : Option Addr), rdM u b_3 o_3 10 = some [(pI x35a), (pI x35b), (pB x35c), (pS x35d), (.list 6 x35ef x35e), (.list 6 x35ff x35f), (pB x35g), (.list 7 x35hf x35h), (pI x35i), (.raw (.pointer x35j))] ∧
          CallP Tryz.prog 61 [(.raw (.pointer x34)), (.agg [(pI x35a), (pI x35b), (pB x35c), (pS x35d), (.list 6 .sh x35e), (.list 6 .sh x35f), (pB x35g), (.list 7 .sh x35h), (pI x35i), (.raw (.pointer x35j))])] u fun v_6 u_10 =>
          ∃ (x36 : Bool), v_6 = (pB x36) ∧
          nn a0
          (withPtrP (.raw (.pointer a0)) fun b_4 o_4 =>
            ∃ (x40 : Option Addr), rdM u_10 b_4 o_4 1 = some [(.raw (.pointer x40))] ∧
            withPtrP (.raw (.pointer s.1)) fun b_5 o_5 =>
            ∃ (x42 : Int), rdM u_10 b_5 o_5 1 = some [(pI x42)] ∧
            CallP Tryz.prog 60 [(.raw (.pointer x40)), (.agg [(pI x42), (pI a2a), (pB a2b), (pS a2c), (.list 6 .sh a2d), (.list 6 .sh a2e), (pB a2f), (.list 7 .sh a2g), (pI a2h), (.raw (.pointer a2i))])] u_10 fun v_7 u_11 =>
            ∃ (x45 : Bool), v_7 = (pB x45) ∧
            R (pB false) u_11)))))

theorem G_book_Map_alpha_number_alpha_memory_Put.ok (a0 : Option Addr) (a1 : Int) (a2a : Int) (a2b : Bool) (a2c : ByteArray) (a2df : Fl) (a2d : List (List PV)) (a2ef : Fl) (a2e : List (List PV)) (a2f : Bool) (a2gf : Fl) (a2g : List (List PV)) (a2h : Int) (a2i : Option Addr) (u0 : Mem) (R : PV → Mem → Prop) : G_book_Map_alpha_number_alpha_memory_Put.sh a0 a1 a2a a2b a2c a2df a2d a2ef a2e a2f a2gf a2g a2h a2i u0 R = VF ⟨Tryz.prog, 46, [5], [], [(4, ⟨[(7, .one (.raw .ptr)), (8, .one (.raw .bool))], []⟩)], [], [], [], []⟩ ((Tryz.f33.body).getD .skip) [.tmp 6] [(.raw (.pointer a0)), (pI a1), (.agg [(pI a2a), (pB a2b), (pS a2c), (.list 6 a2df a2d), (.list 6 a2ef a2e), (pB a2f), (.list 7 a2gf a2g), (pI a2h), (.raw (.pointer a2i))])] u0 R := by kernel_rfl

theorem G_book_Map_alpha_number_alpha_memory_Put.c {a0 : Option Addr} {a1 : Int} {a2a : Int} {a2b : Bool} {a2c : ByteArray} {a2df : Fl} {a2d : List (List PV)} {a2ef : Fl} {a2e : List (List PV)} {a2f : Bool} {a2gf : Fl} {a2g : List (List PV)} {a2h : Int} {a2i : Option Addr} {u0 : Mem} {K : PV → Mem → Prop} (h : G_book_Map_alpha_number_alpha_memory_Put.sh a0 a1 a2a a2b a2c a2df a2d a2ef a2e a2f a2gf a2g a2h a2i u0 K) : CallP Tryz.prog 33 [(.raw (.pointer a0)), (pI a1), (.agg [(pI a2a), (pB a2b), (pS a2c), (.list 6 a2df a2d), (.list 6 a2ef a2e), (pB a2f), (.list 7 a2gf a2g), (pI a2h), (.raw (.pointer a2i))])] u0 K :=
  VF_sound (E := ⟨Tryz.prog, 46, [5], [], [(4, ⟨[(7, .one (.raw .ptr)), (8, .one (.raw .bool))], []⟩)], [], [], [], []⟩) (rs := [.tmp 6]) Tryz.func33 rfl rfl rfl (by kernel_rfl) (by kernel_rfl) (G_book_Map_alpha_number_alpha_memory_Put.ok a0 a1 a2a a2b a2c a2df a2d a2ef a2e a2f a2gf a2g a2h a2i u0 K ▸ h)


/-- ponder/order.New[ponder/alpha.tagged] -/
def G_order_New_alpha_tagged.sh (a0f : Fl) (a0 : List (List PV)) (u0 : Mem) (R : PV → Mem → Prop) : Prop :=
  ∀ (b7 : Nat), u0 b7 = none →
  LoopI (α := Int) (fun next s u =>
    CIf (decide ((s : Int) < ((List.length a0 : Nat) : Int)))
    ((0 : Int) ≤ s ∧ ∃ (r12 : List PV), (a0)[Int.toNat s]? = some r12 ∧
      ∃ (x13a : Int), ∃ (x13b : ByteArray), ∃ (x13c : Int), ∃ (x13d : Int), ∃ (x13e : ByteArray), ∃ (x13f : Int), ∃ (x13g : Int), ∃ (x13h : ByteArray), ∃ (x13i : Int), ∃ (x13j : Bool), ∃ (x13k : Bool), ∃ (x13l : Int), rowM r12 0 12 = some [(pI x13a), (pS x13b), (pI x13c), (pI x13d), (pS x13e), (pI x13f), (pI x13g), (pS x13h), (pI x13i), (pB x13j), (pB x13k), (pI x13l)] ∧
      CallP Tryz.prog 37 [(pP b7 0), (.agg [(pI x13a), (pS x13b), (pI x13c), (pI x13d), (pS x13e), (pI x13f), (pI x13g), (pS x13h), (pI x13i), (pB x13j), (pB x13k), (pI x13l)])] u fun v u_1 =>
      ∃ (x16 : Bool), v = (pB x16) ∧
      next (IntKind.wrap .i64 (s + (1))) u_1)
    (R (pP b7 0) u))
  (0) (Mem.set u0 b7 (some (.cells 125 [(.list 12 .nil []), (pB false)])))

theorem G_order_New_alpha_tagged.ok (a0f : Fl) (a0 : List (List PV)) (u0 : Mem) (R : PV → Mem → Prop) : G_order_New_alpha_tagged.sh a0f a0 u0 R = VF ⟨Tryz.prog, 19, [5], [(3, ⟨[(10, .one (.raw (.int .i64)))], []⟩)], [], [], [], [], []⟩ ((Tryz.f34.body).getD .skip) [.tmp 2] [(.list 12 a0f a0)] u0 R := by kernel_rfl

theorem G_order_New_alpha_tagged.c {a0f : Fl} {a0 : List (List PV)} {u0 : Mem} {K : PV → Mem → Prop} (h : G_order_New_alpha_tagged.sh a0f a0 u0 K) : CallP Tryz.prog 34 [(.list 12 a0f a0)] u0 K :=
  VF_sound (E := ⟨Tryz.prog, 19, [5], [(3, ⟨[(10, .one (.raw (.int .i64)))], []⟩)], [], [], [], [], []⟩) (rs := [.tmp 2]) Tryz.func34 rfl rfl rfl (by kernel_rfl) (by kernel_rfl) (G_order_New_alpha_tagged.ok a0f a0 u0 K ▸ h)


/-- (*ponder/book.Map[ponder/alpha.number, ponder/api.Elem]).All -/
def G_book_Map_alpha_number_api_Elem_All.sh (a0 : Option Addr) (u0 : Mem) (R : PV → Mem → Prop) : Prop :=
  R (.fn (.func 62) [] [(.fptr [(.raw (.pointer a0))] 0)]) u0

theorem G_book_Map_alpha_number_api_Elem_All.ok (a0 : Option Addr) (u0 : Mem) (R : PV → Mem → Prop) : G_book_Map_alpha_number_api_Elem_All.sh a0 u0 R = VF ⟨Tryz.prog, 4, [], [], [], [], [1], [], []⟩ ((Tryz.f35.body).getD .skip) [.tmp 2] [(.raw (.pointer a0))] u0 R := by kernel_rfl

theorem G_book_Map_alpha_number_api_Elem_All.c {a0 : Option Addr} {u0 : Mem} {K : PV → Mem → Prop} (h : G_book_Map_alpha_number_api_Elem_All.sh a0 u0 K) : CallP Tryz.prog 35 [(.raw (.pointer a0))] u0 K :=
  VF_sound (E := ⟨Tryz.prog, 4, [], [], [], [], [1], [], []⟩) (rs := [.tmp 2]) Tryz.func35 rfl rfl rfl (by kernel_rfl) (by kernel_rfl) (G_book_Map_alpha_number_api_Elem_All.ok a0 u0 K ▸ h)


/-- ponder/alpha.meets -/
def G_alpha_meets.sh (a0a : Int) (a0b : Bool) (a0c : ByteArray) (a0df : Fl) (a0d : List (List PV)) (a0ef : Fl) (a0e : List (List PV)) (a0f : Bool) (a0gf : Fl) (a0g : List (List PV)) (a1a : Int) (a1b : ByteArray) (a1c : Int) (a1d : Int) (a1e : ByteArray) (a1f : Int) (a1g : Int) (a1h : ByteArray) (a1i : Int) (a1j : Bool) (a1k : Bool) (a1l : Int) (u0 : Mem) (R : PV → Mem → Prop) : Prop :=
  CallP Tryz.prog 64 [(.agg [(pI a0a), (pB a0b), (pS ⟨#[120]⟩), (.list 6 .sh a0d), (.list 6 .sh a0e), (pB a0f), (.list 7 .sh a0g)]), (.agg [(pI a1a), (pS a1b), (pI a1c), (pI a1d), (pS a1e), (pI a1f), (pI a1g), (pS a1h), (pI a1i), (pB a1j), (pB a1k), (pI a1l)]), (.list 4 .nil [])] u0 fun v u =>
  ∃ (x11pf : Fl) (x11p : List (List PV)), ∃ (x11q : Bool), v = (.tup [(.list 4 x11pf x11p), (pB x11q)]) ∧
  R (pB x11q) u

theorem G_alpha_meets.ok (a0a : Int) (a0b : Bool) (a0c : ByteArray) (a0df : Fl) (a0d : List (List PV)) (a0ef : Fl) (a0e : List (List PV)) (a0f : Bool) (a0gf : Fl) (a0g : List (List PV)) (a1a : Int) (a1b : ByteArray) (a1c : Int) (a1d : Int) (a1e : ByteArray) (a1f : Int) (a1g : Int) (a1h : ByteArray) (a1i : Int) (a1j : Bool) (a1k : Bool) (a1l : Int) (u0 : Mem) (R : PV → Mem → Prop) : G_alpha_meets.sh a0a a0b a0c a0df a0d a0ef a0e a0f a0gf a0g a1a a1b a1c a1d a1e a1f a1g a1h a1i a1j a1k a1l u0 R = VF ⟨Tryz.prog, 15, [2, 3], [], [], [], [], [], []⟩ ((Tryz.f36.body).getD .skip) [.tmp 4] [(.agg [(pI a0a), (pB a0b), (pS a0c), (.list 6 a0df a0d), (.list 6 a0ef a0e), (pB a0f), (.list 7 a0gf a0g)]), (.agg [(pI a1a), (pS a1b), (pI a1c), (pI a1d), (pS a1e), (pI a1f), (pI a1g), (pS a1h), (pI a1i), (pB a1j), (pB a1k), (pI a1l)])] u0 R := by kernel_rfl

theorem G_alpha_meets.c {a0a : Int} {a0b : Bool} {a0c : ByteArray} {a0df : Fl} {a0d : List (List PV)} {a0ef : Fl} {a0e : List (List PV)} {a0f : Bool} {a0gf : Fl} {a0g : List (List PV)} {a1a : Int} {a1b : ByteArray} {a1c : Int} {a1d : Int} {a1e : ByteArray} {a1f : Int} {a1g : Int} {a1h : ByteArray} {a1i : Int} {a1j : Bool} {a1k : Bool} {a1l : Int} {u0 : Mem} {K : PV → Mem → Prop} (h : G_alpha_meets.sh a0a a0b a0c a0df a0d a0ef a0e a0f a0gf a0g a1a a1b a1c a1d a1e a1f a1g a1h a1i a1j a1k a1l u0 K) : CallP Tryz.prog 36 [(.agg [(pI a0a), (pB a0b), (pS a0c), (.list 6 a0df a0d), (.list 6 a0ef a0e), (pB a0f), (.list 7 a0gf a0g)]), (.agg [(pI a1a), (pS a1b), (pI a1c), (pI a1d), (pS a1e), (pI a1f), (pI a1g), (pS a1h), (pI a1i), (pB a1j), (pB a1k), (pI a1l)])] u0 K :=
  VF_sound (E := ⟨Tryz.prog, 15, [2, 3], [], [], [], [], [], []⟩) (rs := [.tmp 4]) Tryz.func36 rfl rfl rfl (by kernel_rfl) (by kernel_rfl) (G_alpha_meets.ok a0a a0b a0c a0df a0d a0ef a0e a0f a0gf a0g a1a a1b a1c a1d a1e a1f a1g a1h a1i a1j a1k a1l u0 K ▸ h)


/-- (*ponder/order.Set[ponder/alpha.tagged]).Put -/
def G_order_Set_alpha_tagged_Put.sh (a0 : Option Addr) (a1a : Int) (a1b : ByteArray) (a1c : Int) (a1d : Int) (a1e : ByteArray) (a1f : Int) (a1g : Int) (a1h : ByteArray) (a1i : Int) (a1j : Bool) (a1k : Bool) (a1l : Int) (u0 : Mem) (R : PV → Mem → Prop) : Prop :=
  CIf (Option.isNone a0)
  (R (pB false) u0)
  (CallP Tryz.prog 65 [(.raw (.pointer a0)), (.agg [(pI a1a), (pS a1b), (pI a1c), (pI a1d), (pS a1e), (pI a1f), (pI a1g), (pS a1h), (pI a1i), (pB a1j), (pB a1k), (pI a1l)])] u0 fun v u =>
    ∃ (x13p : Int), ∃ (x13q : Bool), v = (.tup [(pI x13p), (pB x13q)]) ∧
    CIf x13q
    (R (pB false) u)
    (CallP Tryz.prog 66 [(.raw (.pointer a0))] u fun v_1 u_1 =>
       v_1 = (.tup []) ∧
      nn a0
      (withPtrP (.raw (.pointer a0)) fun b o =>
        ∃ (x23 : Option Addr) (x23n x23c : Nat), rdM u_1 b o 1 = some [(.raw (.slice x23 x23n x23c))] ∧
        appR 12 112 86 x23 x23n x23c (.list 12 .nr [[(pI a1a), (pS a1b), (pI a1c), (pI a1d), (pS a1e), (pI a1f), (pI a1g), (pS a1h), (pI a1i), (pB a1j), (pB a1k), (pI a1l)]]) u_1 fun s26 s26n s26c u_2 =>
        nn a0
        (withPtrP (.raw (.pointer a0)) fun b_1 o_1 =>
          stM b_1 o_1 [(.raw (.slice s26 s26n s26c))] u_2 fun u_3 =>
          nn a0
          (withPtrP (.raw (.pointer a0)) fun b_2 o_2 =>
            ∃ (x32 : Option Addr) (x32n x32c : Nat), rdM u_3 b_2 o_2 1 = some [(.raw (.slice x32 x32n x32c))] ∧
            LoopI (α := Int) (fun next s u_4 =>
              CIf (decide ((s : Int) > x13p))
              (nn a0
                (withPtrP (.raw (.pointer a0)) fun b_3 o_3 =>
                  ∃ (x43 : Option Addr) (x43n x43c : Nat), rdM u_4 b_3 o_3 1 = some [(.raw (.slice x43 x43n x43c))] ∧
                  nn a0
                  (withPtrP (.raw (.pointer a0)) fun b_4 o_4 =>
                    ∃ (x48 : Option Addr) (x48n x48c : Nat), rdM u_4 b_4 o_4 1 = some [(.raw (.slice x48 x48n x48c))] ∧
                    withSl x48 fun b_5 o_5 =>
                    (0 : Int) ≤ (IntKind.wrap .i64 (s - (1))) ∧ (IntKind.wrap .i64 (s - (1))) < ((x48n : Nat) : Int) ∧
                    ∃ (x52a : Int), ∃ (x52b : ByteArray), ∃ (x52c : Int), ∃ (x52d : Int), ∃ (x52e : ByteArray), ∃ (x52f : Int), ∃ (x52g : Int), ∃ (x52h : ByteArray), ∃ (x52i : Int), ∃ (x52j : Bool), ∃ (x52k : Bool), ∃ (x52l : Int), rdM u_4 b_5 (o_5 + Int.toNat (IntKind.wrap .i64 (s - (1))) * 12) 12 = some [(pI x52a), (pS x52b), (pI x52c), (pI x52d), (pS x52e), (pI x52f), (pI x52g), (pS x52h), (pI x52i), (pB x52j), (pB x52k), (pI x52l)] ∧
                    withSl x43 fun b_6 o_6 =>
                    (0 : Int) ≤ s ∧ s < ((x43n : Nat) : Int) ∧
                    stM b_6 (o_6 + Int.toNat s * 12) [(pI x52a), (pS x52b), (pI x52c), (pI x52d), (pS x52e), (pI x52f), (pI x52g), (pS x52h), (pI x52i), (pB x52j), (pB x52k), (pI x52l)] u_4 fun u_5 =>
                    next (IntKind.wrap .i64 (s - (1))) u_5)))
              (nn a0
                (withPtrP (.raw (.pointer a0)) fun b_7 o_7 =>
                  ∃ (x57 : Option Addr) (x57n x57c : Nat), rdM u_4 b_7 o_7 1 = some [(.raw (.slice x57 x57n x57c))] ∧
                  withSl x57 fun b_8 o_8 =>
                  (0 : Int) ≤ x13p ∧ x13p < ((x57n : Nat) : Int) ∧
                  stM b_8 (o_8 + Int.toNat x13p * 12) [(pI a1a), (pS a1b), (pI a1c), (pI a1d), (pS a1e), (pI a1f), (pI a1g), (pS a1h), (pI a1i), (pB a1j), (pB a1k), (pI a1l)] u_4 fun u_6 =>
                  R (pB true) u_6)))
            (IntKind.wrap .i64 (((x32n : Nat) : Int) - (1))) u_3)))))

theorem G_order_Set_alpha_tagged_Put.ok (a0 : Option Addr) (a1a : Int) (a1b : ByteArray) (a1c : Int) (a1d : Int) (a1e : ByteArray) (a1f : Int) (a1g : Int) (a1h : ByteArray) (a1i : Int) (a1j : Bool) (a1k : Bool) (a1l : Int) (u0 : Mem) (R : PV → Mem → Prop) : G_order_Set_alpha_tagged_Put.sh a0 a1a a1b a1c a1d a1e a1f a1g a1h a1i a1j a1k a1l u0 R = VF ⟨Tryz.prog, 61, [3], [(9, ⟨[(7, .one (.raw (.int .i64)))], []⟩)], [], [], [], [], [23, 32, 43, 48, 57]⟩ ((Tryz.f37.body).getD .skip) [.tmp 4] [(.raw (.pointer a0)), (.agg [(pI a1a), (pS a1b), (pI a1c), (pI a1d), (pS a1e), (pI a1f), (pI a1g), (pS a1h), (pI a1i), (pB a1j), (pB a1k), (pI a1l)])] u0 R := by kernel_rfl

theorem G_order_Set_alpha_tagged_Put.c {a0 : Option Addr} {a1a : Int} {a1b : ByteArray} {a1c : Int} {a1d : Int} {a1e : ByteArray} {a1f : Int} {a1g : Int} {a1h : ByteArray} {a1i : Int} {a1j : Bool} {a1k : Bool} {a1l : Int} {u0 : Mem} {K : PV → Mem → Prop} (h : G_order_Set_alpha_tagged_Put.sh a0 a1a a1b a1c a1d a1e a1f a1g a1h a1i a1j a1k a1l u0 K) : CallP Tryz.prog 37 [(.raw (.pointer a0)), (.agg [(pI a1a), (pS a1b), (pI a1c), (pI a1d), (pS a1e), (pI a1f), (pI a1g), (pS a1h), (pI a1i), (pB a1j), (pB a1k), (pI a1l)])] u0 K :=
  VF_sound (E := ⟨Tryz.prog, 61, [3], [(9, ⟨[(7, .one (.raw (.int .i64)))], []⟩)], [], [], [], [], [23, 32, 43, 48, 57]⟩) (rs := [.tmp 4]) Tryz.func37 rfl rfl rfl (by kernel_rfl) (by kernel_rfl) (G_order_Set_alpha_tagged_Put.ok a0 a1a a1b a1c a1d a1e a1f a1g a1h a1i a1j a1k a1l u0 K ▸ h)


/-- (*ponder/book.Map[ponder/alpha.number, ponder/alpha.memory]).Get -/
def G_book_Map_alpha_number_alpha_memory_Get.sh (a0 : Option Addr) (a1 : Int) (u0 : Mem) (R : PV → Mem → Prop) : Prop :=
  CIf (Option.isNone a0)
  (R (.tup [(.agg [(pI (0)), (pB false), (pS ⟨#[]⟩), (.list 6 .nil []), (.list 6 .nil []), (pB false), (.list 7 .nil []), (pI (0)), (.raw (.pointer none))]), (pB false)]) u0)
  (CJoin (α := Option Addr × Bool) (fun J =>
      nn a0
      (withPtrP (.raw (.pointer a0)) fun b o =>
        ∃ (x16 : Option Addr), rdM u0 b o 1 = some [(.raw (.pointer x16))] ∧
        (CallQ Tryz.prog 59 [(pI a1)] u0 fun v u_1 =>
          ∃ (x18a : Int), ∃ (x18b : Int), ∃ (x18c : Bool), ∃ (x18d : ByteArray), ∃ (x18ef : Fl) (x18e : List (List PV)), ∃ (x18ff : Fl) (x18f : List (List PV)), ∃ (x18g : Bool), ∃ (x18hf : Fl) (x18h : List (List PV)), ∃ (x18i : Int), ∃ (x18j : Option Addr), v = (.agg [(pI x18a), (pI x18b), (pB x18c), (pS x18d), (.list 6 x18ef x18e), (.list 6 x18ff x18f), (pB x18g), (.list 7 x18hf x18h), (pI x18i), (.raw (.pointer x18j))]) ∧
          (CallP Tryz.prog 58 [(.raw (.pointer x16)), (.agg [(pI x18a), (pI x18b), (pB x18c), (pS x18d), (.list 6 .sh x18e), (.list 6 .sh x18f), (pB x18g), (.list 7 .sh x18h), (pI x18i), (.raw (.pointer x18j))])] (Mem.or u0 u_1) fun v_1 u_2 =>
            ∃ (x19pa : Int), ∃ (x19pb : Int), ∃ (x19pc : Bool), ∃ (x19pd : ByteArray), ∃ (x19pef : Fl) (x19pe : List (List PV)), ∃ (x19pff : Fl) (x19pf : List (List PV)), ∃ (x19pg : Bool), ∃ (x19phf : Fl) (x19ph : List (List PV)), ∃ (x19pi : Int), ∃ (x19pj : Option Addr), ∃ (x19q : Bool), v_1 = (.tup [(.agg [(pI x19pa), (pI x19pb), (pB x19pc), (pS x19pd), (.list 6 x19pef x19pe), (.list 6 x19pff x19pf), (pB x19pg), (.list 7 x19phf x19ph), (pI x19pi), (.raw (.pointer x19pj))]), (pB x19q)]) ∧
            ∀ (b7 : Nat), u_2 b7 = none →
            stM b7 0 [(pI x19pa), (pI x19pb), (pB x19pc), (pS x19pd), (.list 6 x19pef x19pe), (.list 6 x19pff x19pf), (pB x19pg), (.list 7 x19phf x19ph), (pI x19pi), (.raw (.pointer x19pj))] (Mem.set u_2 b7 (some (.cells 111 [(pI (0)), (pI (0)), (pB false), (pS ⟨#[]⟩), (.list 6 .nil []), (.list 6 .nil []), (pB false), (.list 7 .nil []), (pI (0)), (.raw (.pointer none))]))) fun u_3 =>
            J ((some ⟨b7, 0, none⟩), x19q) u_3) ∧
          (∀ (b7_1 : Nat), (Mem.or u0 u_1) b7_1 = none →
            CallP Tryz.prog 58 [(.raw (.pointer x16)), (.agg [(pI x18a), (pI x18b), (pB x18c), (pS x18d), (.list 6 .sh x18e), (.list 6 .sh x18f), (pB x18g), (.list 7 .sh x18h), (pI x18i), (.raw (.pointer x18j))])] (Mem.set (Mem.or u0 u_1) b7_1 (some (.cells 111 [(pI (0)), (pI (0)), (pB false), (pS ⟨#[]⟩), (.list 6 .nil []), (.list 6 .nil []), (pB false), (.list 7 .nil []), (pI (0)), (.raw (.pointer none))]))) fun v_2 u_4 =>
            ∃ (x19pa_1 : Int), ∃ (x19pb_1 : Int), ∃ (x19pc_1 : Bool), ∃ (x19pd_1 : ByteArray), ∃ (x19pe_1f : Fl) (x19pe_1 : List (List PV)), ∃ (x19pf_1f : Fl) (x19pf_1 : List (List PV)), ∃ (x19pg_1 : Bool), ∃ (x19ph_1f : Fl) (x19ph_1 : List (List PV)), ∃ (x19pi_1 : Int), ∃ (x19pj_1 : Option Addr), ∃ (x19q_1 : Bool), v_2 = (.tup [(.agg [(pI x19pa_1), (pI x19pb_1), (pB x19pc_1), (pS x19pd_1), (.list 6 x19pe_1f x19pe_1), (.list 6 x19pf_1f x19pf_1), (pB x19pg_1), (.list 7 x19ph_1f x19ph_1), (pI x19pi_1), (.raw (.pointer x19pj_1))]), (pB x19q_1)]) ∧
            stM b7_1 0 [(pI x19pa_1), (pI x19pb_1), (pB x19pc_1), (pS x19pd_1), (.list 6 x19pe_1f x19pe_1), (.list 6 x19pf_1f x19pf_1), (pB x19pg_1), (.list 7 x19ph_1f x19ph_1), (pI x19pi_1), (.raw (.pointer x19pj_1))] u_4 fun u_5 =>
            J ((some ⟨b7_1, 0, none⟩), x19q_1) u_5)) ∧
        (∀ (b7_2 : Nat), u0 b7_2 = none →
          CallQ Tryz.prog 59 [(pI a1)] (Mem.set u0 b7_2 (some (.cells 111 [(pI (0)), (pI (0)), (pB false), (pS ⟨#[]⟩), (.list 6 .nil []), (.list 6 .nil []), (pB false), (.list 7 .nil []), (pI (0)), (.raw (.pointer none))]))) fun v_3 u_6 =>
          ∃ (x18a_1 : Int), ∃ (x18b_1 : Int), ∃ (x18c_1 : Bool), ∃ (x18d_1 : ByteArray), ∃ (x18e_1f : Fl) (x18e_1 : List (List PV)), ∃ (x18f_1f : Fl) (x18f_1 : List (List PV)), ∃ (x18g_1 : Bool), ∃ (x18h_1f : Fl) (x18h_1 : List (List PV)), ∃ (x18i_1 : Int), ∃ (x18j_1 : Option Addr), v_3 = (.agg [(pI x18a_1), (pI x18b_1), (pB x18c_1), (pS x18d_1), (.list 6 x18e_1f x18e_1), (.list 6 x18f_1f x18f_1), (pB x18g_1), (.list 7 x18h_1f x18h_1), (pI x18i_1), (.raw (.pointer x18j_1))]) ∧
          CallP Tryz.prog 58 [(.raw (.pointer x16)), (.agg [(pI x18a_1), (pI x18b_1), (pB x18c_1), (pS x18d_1), (.list 6 .sh x18e_1), (.list 6 .sh x18f_1), (pB x18g_1), (.list 7 .sh x18h_1), (pI x18i_1), (.raw (.pointer x18j_1))])] (Mem.or (Mem.set u0 b7_2 (some (.cells 111 [(pI (0)), (pI (0)), (pB false), (pS ⟨#[]⟩), (.list 6 .nil []), (.list 6 .nil []), (pB false), (.list 7 .nil []), (pI (0)), (.raw (.pointer none))]))) u_6) fun v_4 u_7 =>
          ∃ (x19pa_2 : Int), ∃ (x19pb_2 : Int), ∃ (x19pc_2 : Bool), ∃ (x19pd_2 : ByteArray), ∃ (x19pe_2f : Fl) (x19pe_2 : List (List PV)), ∃ (x19pf_2f : Fl) (x19pf_2 : List (List PV)), ∃ (x19pg_2 : Bool), ∃ (x19ph_2f : Fl) (x19ph_2 : List (List PV)), ∃ (x19pi_2 : Int), ∃ (x19pj_2 : Option Addr), ∃ (x19q_2 : Bool), v_4 = (.tup [(.agg [(pI x19pa_2), (pI x19pb_2), (pB x19pc_2), (pS x19pd_2), (.list 6 x19pe_2f x19pe_2), (.list 6 x19pf_2f x19pf_2), (pB x19pg_2), (.list 7 x19ph_2f x19ph_2), (pI x19pi_2), (.raw (.pointer x19pj_2))]), (pB x19q_2)]) ∧
          stM b7_2 0 [(pI x19pa_2), (pI x19pb_2), (pB x19pc_2), (pS x19pd_2), (.list 6 x19pe_2f x19pe_2), (.list 6 x19pf_2f x19pf_2), (pB x19pg_2), (.list 7 x19ph_2f x19ph_2), (pI x19pi_2), (.raw (.pointer x19pj_2))] u_7 fun u_8 =>
          J ((some ⟨b7_2, 0, none⟩), x19q_2) u_8)))
    (fun s u =>
      withPtrP (.raw (.pointer s.1)) fun b_1 o_1 =>
      ∃ (x23a : Int), ∃ (x23b : Bool), ∃ (x23c : ByteArray), ∃ (x23df : Fl) (x23d : List (List PV)), ∃ (x23ef : Fl) (x23e : List (List PV)), ∃ (x23f : Bool), ∃ (x23gf : Fl) (x23g : List (List PV)), ∃ (x23h : Int), ∃ (x23i : Option Addr), rdM u b_1 (o_1 + 1) 9 = some [(pI x23a), (pB x23b), (pS x23c), (.list 6 x23df x23d), (.list 6 x23ef x23e), (pB x23f), (.list 7 x23gf x23g), (pI x23h), (.raw (.pointer x23i))] ∧
      R (.tup [(.agg [(pI x23a), (pB x23b), (pS x23c), (.list 6 x23df x23d), (.list 6 x23ef x23e), (pB x23f), (.list 7 x23gf x23g), (pI x23h), (.raw (.pointer x23i))]), (pB s.2)]) u))

theorem G_book_Map_alpha_number_alpha_memory_Get.ok (a0 : Option Addr) (a1 : Int) (u0 : Mem) (R : PV → Mem → Prop) : G_book_Map_alpha_number_alpha_memory_Get.sh a0 a1 u0 R = VF ⟨Tryz.prog, 25, [4, 6], [], [(5, ⟨[(7, .one (.raw .ptr)), (8, .one (.raw .bool))], []⟩)], [], [], [], []⟩ ((Tryz.f38.body).getD .skip) [.cell 4 65, .tmp 5] [(.raw (.pointer a0)), (pI a1)] u0 R := by kernel_rfl

theorem G_book_Map_alpha_number_alpha_memory_Get.c {a0 : Option Addr} {a1 : Int} {u0 : Mem} {K : PV → Mem → Prop} (h : G_book_Map_alpha_number_alpha_memory_Get.sh a0 a1 u0 K) : CallP Tryz.prog 38 [(.raw (.pointer a0)), (pI a1)] u0 K :=
  VF_sound (E := ⟨Tryz.prog, 25, [4, 6], [], [(5, ⟨[(7, .one (.raw .ptr)), (8, .one (.raw .bool))], []⟩)], [], [], [], []⟩) (rs := [.cell 4 65, .tmp 5]) Tryz.func38 rfl rfl rfl (by kernel_rfl) (by kernel_rfl) (G_book_Map_alpha_number_alpha_memory_Get.ok a0 a1 u0 K ▸ h)


/-- (*ponder/book.Map[ponder/alpha.number, ponder/alpha.memory]).Drop -/
def G_book_Map_alpha_number_alpha_memory_Drop.sh (a0 : Option Addr) (a1 : Int) (u0 : Mem) (R : PV → Mem → Prop) : Prop :=
  CIf (Option.isNone a0)
  (R (.tup [(.agg [(pI (0)), (pB false), (pS ⟨#[]⟩), (.list 6 .nil []), (.list 6 .nil []), (pB false), (.list 7 .nil []), (pI (0)), (.raw (.pointer none))]), (pB false)]) u0)
  (CJoin (α := Option Addr × Bool) (fun J =>
      nn a0
      (withPtrP (.raw (.pointer a0)) fun b o =>
        ∃ (x16 : Option Addr), rdM u0 b o 1 = some [(.raw (.pointer x16))] ∧
        (CallQ Tryz.prog 59 [(pI a1)] u0 fun v u_1 =>
          ∃ (x18a : Int), ∃ (x18b : Int), ∃ (x18c : Bool), ∃ (x18d : ByteArray), ∃ (x18ef : Fl) (x18e : List (List PV)), ∃ (x18ff : Fl) (x18f : List (List PV)), ∃ (x18g : Bool), ∃ (x18hf : Fl) (x18h : List (List PV)), ∃ (x18i : Int), ∃ (x18j : Option Addr), v = (.agg [(pI x18a), (pI x18b), (pB x18c), (pS x18d), (.list 6 x18ef x18e), (.list 6 x18ff x18f), (pB x18g), (.list 7 x18hf x18h), (pI x18i), (.raw (.pointer x18j))]) ∧
          (CallP Tryz.prog 58 [(.raw (.pointer x16)), (.agg [(pI x18a), (pI x18b), (pB x18c), (pS x18d), (.list 6 .sh x18e), (.list 6 .sh x18f), (pB x18g), (.list 7 .sh x18h), (pI x18i), (.raw (.pointer x18j))])] (Mem.or u0 u_1) fun v_1 u_2 =>
            ∃ (x19pa : Int), ∃ (x19pb : Int), ∃ (x19pc : Bool), ∃ (x19pd : ByteArray), ∃ (x19pef : Fl) (x19pe : List (List PV)), ∃ (x19pff : Fl) (x19pf : List (List PV)), ∃ (x19pg : Bool), ∃ (x19phf : Fl) (x19ph : List (List PV)), ∃ (x19pi : Int), ∃ (x19pj : Option Addr), ∃ (x19q : Bool), v_1 = (.tup [(.agg [(pI x19pa), (pI x19pb), (pB x19pc), (pS x19pd), (.list 6 x19pef x19pe), (.list 6 x19pff x19pf), (pB x19pg), (.list 7 x19phf x19ph), (pI x19pi), (.raw (.pointer x19pj))]), (pB x19q)]) ∧
            ∀ (b7 : Nat), u_2 b7 = none →
            stM b7 0 [(pI x19pa), (pI x19pb), (pB x19pc), (pS x19pd), (.list 6 x19pef x19pe), (.list 6 x19pff x19pf), (pB x19pg), (.list 7 x19phf x19ph), (pI x19pi), (.raw (.pointer x19pj))] (Mem.set u_2 b7 (some (.cells 111 [(pI (0)), (pI (0)), (pB false), (pS ⟨#[]⟩), (.list 6 .nil []), (.list 6 .nil []), (pB false), (.list 7 .nil []), (pI (0)), (.raw (.pointer none))]))) fun u_3 =>
            J ((some ⟨b7, 0, none⟩), x19q) u_3) ∧
          (∀ (b7_1 : Nat), (Mem.or u0 u_1) b7_1 = none →
            CallP Tryz.prog 58 [(.raw (.pointer x16)), (.agg [(pI x18a), (pI x18b), (pB x18c), (pS x18d), (.list 6 .sh x18e), (.list 6 .sh x18f), (pB x18g), (.list 7 .sh x18h), (pI x18i), (.raw (.pointer x18j))])] (Mem.set (Mem.or u0 u_1) b7_1 (some (.cells 111 [(pI (0)), (pI (0)), (pB false), (pS ⟨#[]⟩), (.list 6 .nil []), (.list 6 .nil []), (pB false), (.list 7 .nil []), (pI (0)), (.raw (.pointer none))]))) fun v_2 u_4 =>
            ∃ (x19pa_1 : Int), ∃ (x19pb_1 : Int), ∃ (x19pc_1 : Bool), ∃ (x19pd_1 : ByteArray), ∃ (x19pe_1f : Fl) (x19pe_1 : List (List PV)), ∃ (x19pf_1f : Fl) (x19pf_1 : List (List PV)), ∃ (x19pg_1 : Bool), ∃ (x19ph_1f : Fl) (x19ph_1 : List (List PV)), ∃ (x19pi_1 : Int), ∃ (x19pj_1 : Option Addr), ∃ (x19q_1 : Bool), v_2 = (.tup [(.agg [(pI x19pa_1), (pI x19pb_1), (pB x19pc_1), (pS x19pd_1), (.list 6 x19pe_1f x19pe_1), (.list 6 x19pf_1f x19pf_1), (pB x19pg_1), (.list 7 x19ph_1f x19ph_1), (pI x19pi_1), (.raw (.pointer x19pj_1))]), (pB x19q_1)]) ∧
            stM b7_1 0 [(pI x19pa_1), (pI x19pb_1), (pB x19pc_1), (pS x19pd_1), (.list 6 x19pe_1f x19pe_1), (.list 6 x19pf_1f x19pf_1), (pB x19pg_1), (.list 7 x19ph_1f x19ph_1), (pI x19pi_1), (.raw (.pointer x19pj_1))] u_4 fun u_5 =>
            J ((some ⟨b7_1, 0, none⟩), x19q_1) u_5)) ∧
        (∀ (b7_2 : Nat), u0 b7_2 = none →
          CallQ Tryz.prog 59 [(pI a1)] (Mem.set u0 b7_2 (some (.cells 111 [(pI (0)), (pI (0)), (pB false), (pS ⟨#[]⟩), (.list 6 .nil []), (.list 6 .nil []), (pB false), (.list 7 .nil []), (pI (0)), (.raw (.pointer none))]))) fun v_3 u_6 =>
          ∃ (x18a_1 : Int), ∃ (x18b_1 : Int), ∃ (x18c_1 : Bool), ∃ (x18d_1 : ByteArray), ∃ (x18e_1f : Fl) (x18e_1 : List (List PV)), ∃ (x18f_1f : Fl) (x18f_1 : List (List PV)), ∃ (x18g_1 : Bool), ∃ (x18h_1f : Fl) (x18h_1 : List (List PV)), ∃ (x18i_1 : Int), ∃ (x18j_1 : Option Addr), v_3 = (.agg [(pI x18a_1), (pI x18b_1), (pB x18c_1), (pS x18d_1), (.list 6 x18e_1f x18e_1), (.list 6 x18f_1f x18f_1), (pB x18g_1), (.list 7 x18h_1f x18h_1), (pI x18i_1), (.raw (.pointer x18j_1))]) ∧
          CallP Tryz.prog 58 [(.raw (.pointer x16)), (.agg [(pI x18a_1), (pI x18b_1), (pB x18c_1), (pS x18d_1), (.list 6 .sh x18e_1), (.list 6 .sh x18f_1), (pB x18g_1), (.list 7 .sh x18h_1), (pI x18i_1), (.raw (.pointer x18j_1))])] (Mem.or (Mem.set u0 b7_2 (some (.cells 111 [(pI (0)), (pI (0)), (pB false), (pS ⟨#[]⟩), (.list 6 .nil []), (.list 6 .nil []), (pB false), (.list 7 .nil []), (pI (0)), (.raw (.pointer none))]))) u_6) fun v_4 u_7 =>
          ∃ (x19pa_2 : Int), ∃ (x19pb_2 : Int), ∃ (x19pc_2 : Bool), ∃ (x19pd_2 : ByteArray), ∃ (x19pe_2f : Fl) (x19pe_2 : List (List PV)), ∃ (x19pf_2f : Fl) (x19pf_2 : List (List PV)), ∃ (x19pg_2 : Bool), ∃ (x19ph_2f : Fl) (x19ph_2 : List (List PV)), ∃ (x19pi_2 : Int), ∃ (x19pj_2 : Option Addr), ∃ (x19q_2 : Bool), v_4 = (.tup [(.agg [(pI x19pa_2), (pI x19pb_2), (pB x19pc_2), (pS x19pd_2), (.list 6 x19pe_2f x19pe_2), (.list 6 x19pf_2f x19pf_2), (pB x19pg_2), (.list 7 x19ph_2f x19ph_2), (pI x19pi_2), (.raw (.pointer x19pj_2))]), (pB x19q_2)]) ∧
          stM b7_2 0 [(pI x19pa_2), (pI x19pb_2), (pB x19pc_2), (pS x19pd_2), (.list 6 x19pe_2f x19pe_2), (.list 6 x19pf_2f x19pf_2), (pB x19pg_2), (.list 7 x19ph_2f x19ph_2), (pI x19pi_2), (.raw (.pointer x19pj_2))] u_7 fun u_8 =>
          J ((some ⟨b7_2, 0, none⟩), x19q_2) u_8)))
    (fun s u =>
      CJoin (α := Unit) (fun J_1 =>
        CIf s.2
        (nn a0
          (withPtrP (.raw (.pointer a0)) fun b_1 o_1 =>
            ∃ (x26 : Option Addr), rdM u b_1 o_1 1 = some [(.raw (.pointer x26))] ∧
            withPtrP (.raw (.pointer s.1)) fun b_2 o_2 =>
            ∃ (x27a : Int), ∃ (x27b : Int), ∃ (x27c : Bool), ∃ (x27d : ByteArray), ∃ (x27ef : Fl) (x27e : List (List PV)), ∃ (x27ff : Fl) (x27f : List (List PV)), ∃ (x27g : Bool), ∃ (x27hf : Fl) (x27h : List (List PV)), ∃ (x27i : Int), ∃ (x27j : Option Addr), rdM u b_2 o_2 10 = some [(pI x27a), (pI x27b), (pB x27c), (pS x27d), (.list 6 x27ef x27e), (.list 6 x27ff x27f), (pB x27g), (.list 7 x27hf x27h), (pI x27i), (.raw (.pointer x27j))] ∧
            CallP Tryz.prog 61 [(.raw (.pointer x26)), (.agg [(pI x27a), (pI x27b), (pB x27c), (pS x27d), (.list 6 .sh x27e), (.list 6 .sh x27f), (pB x27g), (.list 7 .sh x27h), (pI x27i), (.raw (.pointer x27j))])] u fun v_5 u_10 =>
            ∃ (x28 : Bool), v_5 = (pB x28) ∧
            J_1 () u_10))
        (J_1 () u))
      (fun s_1 u_9 =>
        withPtrP (.raw (.pointer s.1)) fun b_3 o_3 =>
        ∃ (x30a : Int), ∃ (x30b : Bool), ∃ (x30c : ByteArray), ∃ (x30df : Fl) (x30d : List (List PV)), ∃ (x30ef : Fl) (x30e : List (List PV)), ∃ (x30f : Bool), ∃ (x30gf : Fl) (x30g : List (List PV)), ∃ (x30h : Int), ∃ (x30i : Option Addr), rdM u_9 b_3 (o_3 + 1) 9 = some [(pI x30a), (pB x30b), (pS x30c), (.list 6 x30df x30d), (.list 6 x30ef x30e), (pB x30f), (.list 7 x30gf x30g), (pI x30h), (.raw (.pointer x30i))] ∧
        R (.tup [(.agg [(pI x30a), (pB x30b), (pS x30c), (.list 6 x30df x30d), (.list 6 x30ef x30e), (pB x30f), (.list 7 x30gf x30g), (pI x30h), (.raw (.pointer x30i))]), (pB s.2)]) u_9)))

theorem G_book_Map_alpha_number_alpha_memory_Drop.ok (a0 : Option Addr) (a1 : Int) (u0 : Mem) (R : PV → Mem → Prop) : G_book_Map_alpha_number_alpha_memory_Drop.sh a0 a1 u0 R = VF ⟨Tryz.prog, 32, [4, 6], [], [(5, ⟨[(7, .one (.raw .ptr)), (8, .one (.raw .bool))], []⟩), (7, ⟨[], []⟩)], [], [], [], []⟩ ((Tryz.f39.body).getD .skip) [.cell 4 65, .tmp 5] [(.raw (.pointer a0)), (pI a1)] u0 R := by kernel_rfl

theorem G_book_Map_alpha_number_alpha_memory_Drop.c {a0 : Option Addr} {a1 : Int} {u0 : Mem} {K : PV → Mem → Prop} (h : G_book_Map_alpha_number_alpha_memory_Drop.sh a0 a1 u0 K) : CallP Tryz.prog 39 [(.raw (.pointer a0)), (pI a1)] u0 K :=
  VF_sound (E := ⟨Tryz.prog, 32, [4, 6], [], [(5, ⟨[(7, .one (.raw .ptr)), (8, .one (.raw .bool))], []⟩), (7, ⟨[], []⟩)], [], [], [], []⟩) (rs := [.cell 4 65, .tmp 5]) Tryz.func39 rfl rfl rfl (by kernel_rfl) (by kernel_rfl) (G_book_Map_alpha_number_alpha_memory_Drop.ok a0 a1 u0 K ▸ h)


/-- (*ponder/book.Map[ponder/alpha.number, ponder/api.Elem]).Get -/
def G_book_Map_alpha_number_api_Elem_Get.sh (a0 : Option Addr) (a1 : Int) (u0 : Mem) (R : PV → Mem → Prop) : Prop :=
  CIf (Option.isNone a0)
  (R (.tup [(.agg [(pI (0)), (pS ⟨#[]⟩), (pI (0)), (pI (0)), (pS ⟨#[]⟩), (pI (0)), (pI (0)), (pS ⟨#[]⟩), (pI (0)), (pB false), (pB false), (pI (0))]), (pB false)]) u0)
  (CJoin (α := Option Addr × Bool) (fun J =>
      nn a0
      (withPtrP (.raw (.pointer a0)) fun b o =>
        ∃ (x16 : Option Addr), rdM u0 b o 1 = some [(.raw (.pointer x16))] ∧
        (CallQ Tryz.prog 68 [(pI a1)] u0 fun v u_1 =>
          ∃ (x18a : Int), ∃ (x18b : Int), ∃ (x18c : ByteArray), ∃ (x18d : Int), ∃ (x18e : Int), ∃ (x18f : ByteArray), ∃ (x18g : Int), ∃ (x18h : Int), ∃ (x18i : ByteArray), ∃ (x18j : Int), ∃ (x18k : Bool), ∃ (x18l : Bool), ∃ (x18m : Int), v = (.agg [(pI x18a), (pI x18b), (pS x18c), (pI x18d), (pI x18e), (pS x18f), (pI x18g), (pI x18h), (pS x18i), (pI x18j), (pB x18k), (pB x18l), (pI x18m)]) ∧
          (CallP Tryz.prog 67 [(.raw (.pointer x16)), (.agg [(pI x18a), (pI x18b), (pS x18c), (pI x18d), (pI x18e), (pS x18f), (pI x18g), (pI x18h), (pS x18i), (pI x18j), (pB x18k), (pB x18l), (pI x18m)])] (Mem.or u0 u_1) fun v_1 u_2 =>
            ∃ (x19pa : Int), ∃ (x19pb : Int), ∃ (x19pc : ByteArray), ∃ (x19pd : Int), ∃ (x19pe : Int), ∃ (x19pf : ByteArray), ∃ (x19pg : Int), ∃ (x19ph : Int), ∃ (x19pi : ByteArray), ∃ (x19pj : Int), ∃ (x19pk : Bool), ∃ (x19pl : Bool), ∃ (x19pm : Int), ∃ (x19q : Bool), v_1 = (.tup [(.agg [(pI x19pa), (pI x19pb), (pS x19pc), (pI x19pd), (pI x19pe), (pS x19pf), (pI x19pg), (pI x19ph), (pS x19pi), (pI x19pj), (pB x19pk), (pB x19pl), (pI x19pm)]), (pB x19q)]) ∧
            ∀ (b7 : Nat), u_2 b7 = none →
            stM b7 0 [(pI x19pa), (pI x19pb), (pS x19pc), (pI x19pd), (pI x19pe), (pS x19pf), (pI x19pg), (pI x19ph), (pS x19pi), (pI x19pj), (pB x19pk), (pB x19pl), (pI x19pm)] (Mem.set u_2 b7 (some (.cells 105 [(pI (0)), (pI (0)), (pS ⟨#[]⟩), (pI (0)), (pI (0)), (pS ⟨#[]⟩), (pI (0)), (pI (0)), (pS ⟨#[]⟩), (pI (0)), (pB false), (pB false), (pI (0))]))) fun u_3 =>
            J ((some ⟨b7, 0, none⟩), x19q) u_3) ∧
          (∀ (b7_1 : Nat), (Mem.or u0 u_1) b7_1 = none →
            CallP Tryz.prog 67 [(.raw (.pointer x16)), (.agg [(pI x18a), (pI x18b), (pS x18c), (pI x18d), (pI x18e), (pS x18f), (pI x18g), (pI x18h), (pS x18i), (pI x18j), (pB x18k), (pB x18l), (pI x18m)])] (Mem.set (Mem.or u0 u_1) b7_1 (some (.cells 105 [(pI (0)), (pI (0)), (pS ⟨#[]⟩), (pI (0)), (pI (0)), (pS ⟨#[]⟩), (pI (0)), (pI (0)), (pS ⟨#[]⟩), (pI (0)), (pB false), (pB false), (pI (0))]))) fun v_2 u_4 =>
            ∃ (x19pa_1 : Int), ∃ (x19pb_1 : Int), ∃ (x19pc_1 : ByteArray), ∃ (x19pd_1 : Int), ∃ (x19pe_1 : Int), ∃ (x19pf_1 : ByteArray), ∃ (x19pg_1 : Int), ∃ (x19ph_1 : Int), ∃ (x19pi_1 : ByteArray), ∃ (x19pj_1 : Int), ∃ (x19pk_1 : Bool), ∃ (x19pl_1 : Bool), ∃ (x19pm_1 : Int), ∃ (x19q_1 : Bool), v_2 = (.tup [(.agg [(pI x19pa_1), (pI x19pb_1), (pS x19pc_1), (pI x19pd_1), (pI x19pe_1), (pS x19pf_1), (pI x19pg_1), (pI x19ph_1), (pS x19pi_1), (pI x19pj_1), (pB x19pk_1), (pB x19pl_1), (pI x19pm_1)]), (pB x19q_1)]) ∧
            stM b7_1 0 [(pI x19pa_1), (pI x19pb_1), (pS x19pc_1), (pI x19pd_1), (pI x19pe_1), (pS x19pf_1), (pI x19pg_1), (pI x19ph_1), (pS x19pi_1), (pI x19pj_1), (pB x19pk_1), (pB x19pl_1), (pI x19pm_1)] u_4 fun u_5 =>
            J ((some ⟨b7_1, 0, none⟩), x19q_1) u_5)) ∧
        (∀ (b7_2 : Nat), u0 b7_2 = none →
          CallQ Tryz.prog 68 [(pI a1)] (Mem.set u0 b7_2 (some (.cells 105 [(pI (0)), (pI (0)), (pS ⟨#[]⟩), (pI (0)), (pI (0)), (pS ⟨#[]⟩), (pI (0)), (pI (0)), (pS ⟨#[]⟩), (pI (0)), (pB false), (pB false), (pI (0))]))) fun v_3 u_6 =>
          ∃ (x18a_1 : Int), ∃ (x18b_1 : Int), ∃ (x18c_1 : ByteArray), ∃ (x18d_1 : Int), ∃ (x18e_1 : Int), ∃ (x18f_1 : ByteArray), ∃ (x18g_1 : Int), ∃ (x18h_1 : Int), ∃ (x18i_1 : ByteArray), ∃ (x18j_1 : Int), ∃ (x18k_1 : Bool), ∃ (x18l_1 : Bool), ∃ (x18m_1 : Int), v_3 = (.agg [(pI x18a_1), (pI x18b_1), (pS x18c_1), (pI x18d_1), (pI x18e_1), (pS x18f_1), (pI x18g_1), (pI x18h_1), (pS x18i_1), (pI x18j_1), (pB x18k_1), (pB x18l_1), (pI x18m_1)]) ∧
          CallP Tryz.prog 67 [(.raw (.pointer x16)), (.agg [(pI x18a_1), (pI x18b_1), (pS x18c_1), (pI x18d_1), (pI x18e_1), (pS x18f_1), (pI x18g_1), (pI x18h_1), (pS x18i_1), (pI x18j_1), (pB x18k_1), (pB x18l_1), (pI x18m_1)])] (Mem.or (Mem.set u0 b7_2 (some (.cells 105 [(pI (0)), (pI (0)), (pS ⟨#[]⟩), (pI (0)), (pI (0)), (pS ⟨#[]⟩), (pI (0)), (pI (0)), (pS ⟨#[]⟩), (pI (0)), (pB false), (pB false), (pI (0))]))) u_6) fun v_4 u_7 =>
          ∃ (x19pa_2 : Int), ∃ (x19pb_2 : Int), ∃ (x19pc_2 : ByteArray), ∃ (x19pd_2 : Int), ∃ (x19pe_2 : Int), ∃ (x19pf_2 : ByteArray), ∃ (x19pg_2 : Int), ∃ (x19ph_2 : Int), ∃ (x19pi_2 : ByteArray), ∃ (x19pj_2 : Int), ∃ (x19pk_2 : Bool), ∃ (x19pl_2 : Bool), ∃ (x19pm_2 : Int), ∃ (x19q_2 : Bool), v_4 = (.tup [(.agg [(pI x19pa_2), (pI x19pb_2), (pS x19pc_2), (pI x19pd_2), (pI x19pe_2), (pS x19pf_2), (pI x19pg_2), (pI x19ph_2), (pS x19pi_2), (pI x19pj_2), (pB x19pk_2), (pB x19pl_2), (pI x19pm_2)]), (pB x19q_2)]) ∧
          stM b7_2 0 [(pI x19pa_2), (pI x19pb_2), (pS x19pc_2), (pI x19pd_2), (pI x19pe_2), (pS x19pf_2), (pI x19pg_2), (pI x19ph_2), (pS x19pi_2), (pI x19pj_2), (pB x19pk_2), (pB x19pl_2), (pI x19pm_2)] u_7 fun u_8 =>
          J ((some ⟨b7_2, 0, none⟩), x19q_2) u_8)))
    (fun s u =>
      withPtrP (.raw (.pointer s.1)) fun b_1 o_1 =>
      ∃ (x23a : Int), ∃ (x23b : ByteArray), ∃ (x23c : Int), ∃ (x23d : Int), ∃ (x23e : ByteArray), ∃ (x23f : Int), ∃ (x23g : Int), ∃ (x23h : ByteArray), ∃ (x23i : Int), ∃ (x23j : Bool), ∃ (x23k : Bool), ∃ (x23l : Int), rdM u b_1 (o_1 + 1) 12 = some [(pI x23a), (pS x23b), (pI x23c), (pI x23d), (pS x23e), (pI x23f), (pI x23g), (pS x23h), (pI x23i), (pB x23j), (pB x23k), (pI x23l)] ∧
      R (.tup [(.agg [(pI x23a), (pS x23b), (pI x23c), (pI x23d), (pS x23e), (pI x23f), (pI x23g), (pS x23h), (pI x23i), (pB x23j), (pB x23k), (pI x23l)]), (pB s.2)]) u))

theorem G_book_Map_alpha_number_api_Elem_Get.ok (a0 : Option Addr) (a1 : Int) (u0 : Mem) (R : PV → Mem → Prop) : G_book_Map_alpha_number_api_Elem_Get.sh a0 a1 u0 R = VF ⟨Tryz.prog, 25, [4, 6], [], [(5, ⟨[(7, .one (.raw .ptr)), (8, .one (.raw .bool))], []⟩)], [], [], [], []⟩ ((Tryz.f40.body).getD .skip) [.cell 4 36, .tmp 5] [(.raw (.pointer a0)), (pI a1)] u0 R := by kernel_rfl

theorem G_book_Map_alpha_number_api_Elem_Get.c {a0 : Option Addr} {a1 : Int} {u0 : Mem} {K : PV → Mem → Prop} (h : G_book_Map_alpha_number_api_Elem_Get.sh a0 a1 u0 K) : CallP Tryz.prog 40 [(.raw (.pointer a0)), (pI a1)] u0 K :=
  VF_sound (E := ⟨Tryz.prog, 25, [4, 6], [], [(5, ⟨[(7, .one (.raw .ptr)), (8, .one (.raw .bool))], []⟩)], [], [], [], []⟩) (rs := [.cell 4 36, .tmp 5]) Tryz.func40 rfl rfl rfl (by kernel_rfl) (by kernel_rfl) (G_book_Map_alpha_number_api_Elem_Get.ok a0 a1 u0 K ▸ h)


/-- (*ponder/book.Map[ponder/alpha.number, ponder/api.Elem]).Put -/
def G_book_Map_alpha_number_api_Elem_Put.sh (a0 : Option Addr) (a1 : Int) (a2a : Int) (a2b : ByteArray) (a2c : Int) (a2d : Int) (a2e : ByteArray) (a2f : Int) (a2g : Int) (a2h : ByteArray) (a2i : Int) (a2j : Bool) (a2k : Bool) (a2l : Int) (u0 : Mem) (R : PV → Mem → Prop) : Prop :=
  CIf (Option.isNone a0)
  (R (pB false) u0)
  (CJoin (α := Option Addr × Bool) (fun J =>
      nn a0
      (withPtrP (.raw (.pointer a0)) fun b o =>
        ∃ (x15 : Option Addr), rdM u0 b o 1 = some [(.raw (.pointer x15))] ∧
        (CallQ Tryz.prog 68 [(pI a1)] u0 fun v u_1 =>
          ∃ (x17a : Int), ∃ (x17b : Int), ∃ (x17c : ByteArray), ∃ (x17d : Int), ∃ (x17e : Int), ∃ (x17f : ByteArray), ∃ (x17g : Int), ∃ (x17h : Int), ∃ (x17i : ByteArray), ∃ (x17j : Int), ∃ (x17k : Bool), ∃ (x17l : Bool), ∃ (x17m : Int), v = (.agg [(pI x17a), (pI x17b), (pS x17c), (pI x17d), (pI x17e), (pS x17f), (pI x17g), (pI x17h), (pS x17i), (pI x17j), (pB x17k), (pB x17l), (pI x17m)]) ∧
          (CallP Tryz.prog 67 [(.raw (.pointer x15)), (.agg [(pI x17a), (pI x17b), (pS x17c), (pI x17d), (pI x17e), (pS x17f), (pI x17g), (pI x17h), (pS x17i), (pI x17j), (pB x17k), (pB x17l), (pI x17m)])] (Mem.or u0 u_1) fun v_1 u_2 =>
            ∃ (x18pa : Int), ∃ (x18pb : Int), ∃ (x18pc : ByteArray), ∃ (x18pd : Int), ∃ (x18pe : Int), ∃ (x18pf : ByteArray), ∃ (x18pg : Int), ∃ (x18ph : Int), ∃ (x18pi : ByteArray), ∃ (x18pj : Int), ∃ (x18pk : Bool), ∃ (x18pl : Bool), ∃ (x18pm : Int), ∃ (x18q : Bool), v_1 = (.tup [(.agg [(pI x18pa), (pI x18pb), (pS x18pc), (pI x18pd), (pI x18pe), (pS x18pf), (pI x18pg), (pI x18ph), (pS x18pi), (pI x18pj), (pB x18pk), (pB x18pl), (pI x18pm)]), (pB x18q)]) ∧
            ∀ (b7 : Nat), u_2 b7 = none →
            stM b7 0 [(pI x18pa), (pI x18pb), (pS x18pc), (pI x18pd), (pI x18pe), (pS x18pf), (pI x18pg), (pI x18ph), (pS x18pi), (pI x18pj), (pB x18pk), (pB x18pl), (pI x18pm)] (Mem.set u_2 b7 (some (.cells 105 [(pI (0)), (pI (0)), (pS ⟨#[]⟩), (pI (0)), (pI (0)), (pS ⟨#[]⟩), (pI (0)), (pI (0)), (pS ⟨#[]⟩), (pI (0)), (pB false), (pB false), (pI (0))]))) fun u_3 =>
            J ((some ⟨b7, 0, none⟩), x18q) u_3) ∧
          (∀ (b7_1 : Nat), (Mem.or u0 u_1) b7_1 = none →
            CallP Tryz.prog 67 [(.raw (.pointer x15)), (.agg [(pI x17a), (pI x17b), (pS x17c), (pI x17d), (pI x17e), (pS x17f), (pI x17g), (pI x17h), (pS x17i), (pI x17j), (pB x17k), (pB x17l), (pI x17m)])] (Mem.set (Mem.or u0 u_1) b7_1 (some (.cells 105 [(pI (0)), (pI (0)), (pS ⟨#[]⟩), (pI (0)), (pI (0)), (pS ⟨#[]⟩), (pI (0)), (pI (0)), (pS ⟨#[]⟩), (pI (0)), (pB false), (pB false), (pI (0))]))) fun v_2 u_4 =>
            ∃ (x18pa_1 : Int), ∃ (x18pb_1 : Int), ∃ (x18pc_1 : ByteArray), ∃ (x18pd_1 : Int), ∃ (x18pe_1 : Int), ∃ (x18pf_1 : ByteArray), ∃ (x18pg_1 : Int), ∃ (x18ph_1 : Int), ∃ (x18pi_1 : ByteArray), ∃ (x18pj_1 : Int), ∃ (x18pk_1 : Bool), ∃ (x18pl_1 : Bool), ∃ (x18pm_1 : Int), ∃ (x18q_1 : Bool), v_2 = (.tup [(.agg [(pI x18pa_1), (pI x18pb_1), (pS x18pc_1), (pI x18pd_1), (pI x18pe_1), (pS x18pf_1), (pI x18pg_1), (pI x18ph_1), (pS x18pi_1), (pI x18pj_1), (pB x18pk_1), (pB x18pl_1), (pI x18pm_1)]), (pB x18q_1)]) ∧
            stM b7_1 0 [(pI x18pa_1), (pI x18pb_1), (pS x18pc_1), (pI x18pd_1), (pI x18pe_1), (pS x18pf_1), (pI x18pg_1), (pI x18ph_1), (pS x18pi_1), (pI x18pj_1), (pB x18pk_1), (pB x18pl_1), (pI x18pm_1)] u_4 fun u_5 =>
            J ((some ⟨b7_1, 0, none⟩), x18q_1) u_5)) ∧
        (∀ (b7_2 : Nat), u0 b7_2 = none →
          CallQ Tryz.prog 68 [(pI a1)] (Mem.set u0 b7_2 (some (.cells 105 [(pI (0)), (pI (0)), (pS ⟨#[]⟩), (pI (0)), (pI (0)), (pS ⟨#[]⟩), (pI (0)), (pI (0)), (pS ⟨#[]⟩), (pI (0)), (pB false), (pB false), (pI (0))]))) fun v_3 u_6 =>
          ∃ (x17a_1 : Int), ∃ (x17b_1 : Int), ∃ (x17c_1 : ByteArray), ∃ (x17d_1 : Int), ∃ (x17e_1 : Int), ∃ (x17f_1 : ByteArray), ∃ (x17g_1 : Int), ∃ (x17h_1 : Int), ∃ (x17i_1 : ByteArray), ∃ (x17j_1 : Int), ∃ (x17k_1 : Bool), ∃ (x17l_1 : Bool), ∃ (x17m_1 : Int), v_3 = (.agg [(pI x17a_1), (pI x17b_1), (pS x17c_1), (pI x17d_1), (pI x17e_1), (pS x17f_1), (pI x17g_1), (pI x17h_1), (pS x17i_1), (pI x17j_1), (pB x17k_1), (pB x17l_1), (pI x17m_1)]) ∧
          CallP Tryz.prog 67 [(.raw (.pointer x15)), (.agg [(pI x17a_1), (pI x17b_1), (pS x17c_1), (pI x17d_1), (pI x17e_1), (pS x17f_1), (pI x17g_1), (pI x17h_1), (pS x17i_1), (pI x17j_1), (pB x17k_1), (pB x17l_1), (pI x17m_1)])] (Mem.or (Mem.set u0 b7_2 (some (.cells 105 [(pI (0)), (pI (0)), (pS ⟨#[]⟩), (pI (0)), (pI (0)), (pS ⟨#[]⟩), (pI (0)), (pI (0)), (pS ⟨#[]⟩), (pI (0)), (pB false), (pB false), (pI (0))]))) u_6) fun v_4 u_7 =>
          ∃ (x18pa_2 : Int), ∃ (x18pb_2 : Int), ∃ (x18pc_2 : ByteArray), ∃ (x18pd_2 : Int), ∃ (x18pe_2 : Int), ∃ (x18pf_2 : ByteArray), ∃ (x18pg_2 : Int), ∃ (x18ph_2 : Int), ∃ (x18pi_2 : ByteArray), ∃ (x18pj_2 : Int), ∃ (x18pk_2 : Bool), ∃ (x18pl_2 : Bool), ∃ (x18pm_2 : Int), ∃ (x18q_2 : Bool), v_4 = (.tup [(.agg [(pI x18pa_2), (pI x18pb_2), (pS x18pc_2), (pI x18pd_2), (pI x18pe_2), (pS x18pf_2), (pI x18pg_2), (pI x18ph_2), (pS x18pi_2), (pI x18pj_2), (pB x18pk_2), (pB x18pl_2), (pI x18pm_2)]), (pB x18q_2)]) ∧
          stM b7_2 0 [(pI x18pa_2), (pI x18pb_2), (pS x18pc_2), (pI x18pd_2), (pI x18pe_2), (pS x18pf_2), (pI x18pg_2), (pI x18ph_2), (pS x18pi_2), (pI x18pj_2), (pB x18pk_2), (pB x18pl_2), (pI x18pm_2)] u_7 fun u_8 =>
          J ((some ⟨b7_2, 0, none⟩), x18q_2) u_8)))
    (fun s u =>
      CIf (!s.2)
      (nn a0
        (withPtrP (.raw (.pointer a0)) fun b_1 o_1 =>
          ∃ (x26 : Option Addr), rdM u b_1 o_1 1 = some [(.raw (.pointer x26))] ∧
          CallP Tryz.prog 69 [(.raw (.pointer x26)), (.agg [(pI a1), (pI a2a), (pS a2b), (pI a2c), (pI a2d), (pS a2e), (pI a2f), (pI a2g), (pS a2h), (pI a2i), (pB a2j), (pB a2k), (pI a2l)])] u fun v_5 u_9 =>
          ∃ (x30 : Bool), v_5 = (pB x30) ∧
          R (pB x30) u_9))
      (nn a0
        (withPtrP (.raw (.pointer a0)) fun b_2 o_2 =>
          ∃ (x34 : Option Addr), rdM u b_2 o_2 1 = some [(.raw (.pointer x34))] ∧
          withPtrP (.raw (.pointer s.1)) fun b_3 o_3 =>
          ∃ (x35a : Int), ∃ (x35b : Int), ∃ (x35c : ByteArray), ∃ (x35d : Int), ∃ (x35e : Int), ∃ (x35f : ByteArray), ∃ (x35g : Int), ∃ (x35h : Int), ∃ (x35i : ByteArray), ∃ (x35j : Int), ∃ (x35k : Bool), ∃ (x35l : Bool), ∃ (x35m : Int), rdM u b_3 o_3 13 = some [(pI x35a), (pI x35b), (pS x35c), (pI x35d), (pI x35e), (pS x35f), (pI x35g), (pI x35h), (pS x35i), (pI x35j), (pB x35k), (pB x35l), (pI x35m)] ∧
          CallP Tryz.prog 70 [(.raw (.pointer x34)), (.agg [(pI x35a), (pI x35b), (pS x35c), (pI x35d), (pI x35e), (pS x35f), (pI x35g), (pI x35h), (pS x35i), (pI x35j), (pB x35k), (pB x35l), (pI x35m)])] u fun v_6 u_10 =>
          ∃ (x36 : Bool), v_6 = (pB x36) ∧
          nn a0
          (withPtrP (.raw (.pointer a0)) fun b_4 o_4 =>
            ∃ (x40 : Option Addr), rdM u_10 b_4 o_4 1 = some [(.raw (.pointer x40))] ∧
            withPtrP (.raw (.pointer s.1)) fun b_5 o_5 =>
            ∃ (x42 : Int), rdM u_10 b_5 o_5 1 = some [(pI x42)] ∧
            CallP Tryz.prog 69 [(.raw (.pointer x40)), (.agg [(pI x42), (pI a2a), (pS a2b), (pI a2c), (pI a2d), (pS a2e), (pI a2f), (pI a2g), (pS a2h), (pI a2i), (pB a2j), (pB a2k), (pI a2l)])] u_10 fun v_7 u_11 =>
            ∃ (x45 : Bool), v_7 = (pB x45) ∧
            R (pB false) u_11)))))

theorem G_book_Map_alpha_number_api_Elem_Put.ok (a0 : Option Addr) (a1 : Int) (a2a : Int) (a2b : ByteArray) (a2c : Int) (a2d : Int) (a2e : ByteArray) (a2f : Int) (a2g : Int) (a2h : ByteArray) (a2i : Int) (a2j : Bool) (a2k : Bool) (a2l : Int) (u0 : Mem) (R : PV → Mem → Prop) : G_book_Map_alpha_number_api_Elem_Put.sh a0 a1 a2a a2b a2c a2d a2e a2f a2g a2h a2i a2j a2k a2l u0 R = VF ⟨Tryz.prog, 46, [5], [], [(4, ⟨[(7, .one (.raw .ptr)), (8, .one (.raw .bool))], []⟩)], [], [], [], []⟩ ((Tryz.f41.body).getD .skip) [.tmp 6] [(.raw (.pointer a0)), (pI a1), (.agg [(pI a2a), (pS a2b), (pI a2c), (pI a2d), (pS a2e), (pI a2f), (pI a2g), (pS a2h), (pI a2i), (pB a2j), (pB a2k), (pI a2l)])] u0 R := by kernel_rfl

theorem G_book_Map_alpha_number_api_Elem_Put.c {a0 : Option Addr} {a1 : Int} {a2a : Int} {a2b : ByteArray} {a2c : Int} {a2d : Int} {a2e : ByteArray} {a2f : Int} {a2g : Int} {a2h : ByteArray} {a2i : Int} {a2j : Bool} {a2k : Bool} {a2l : Int} {u0 : Mem} {K : PV → Mem → Prop} (h : G_book_Map_alpha_number_api_Elem_Put.sh a0 a1 a2a a2b a2c a2d a2e a2f a2g a2h a2i a2j a2k a2l u0 K) : CallP Tryz.prog 41 [(.raw (.pointer a0)), (pI a1), (.agg [(pI a2a), (pS a2b), (pI a2c), (pI a2d), (pS a2e), (pI a2f), (pI a2g), (pS a2h), (pI a2i), (pB a2j), (pB a2k), (pI a2l)])] u0 K :=
  VF_sound (E := ⟨Tryz.prog, 46, [5], [], [(4, ⟨[(7, .one (.raw .ptr)), (8, .one (.raw .bool))], []⟩)], [], [], [], []⟩) (rs := [.tmp 6]) Tryz.func41 rfl rfl rfl (by kernel_rfl) (by kernel_rfl) (G_book_Map_alpha_number_api_Elem_Put.ok a0 a1 a2a a2b a2c a2d a2e a2f a2g a2h a2i a2j a2k a2l u0 K ▸ h)


/-- ponder/ponderref10.Meets -/
def G_ponderref10_Meets.sh (a0a : Int) (a0b : Bool) (a0c : ByteArray) (a0df : Fl) (a0d : List (List PV)) (a0ef : Fl) (a0e : List (List PV)) (a0f : Bool) (a0gf : Fl) (a0g : List (List PV)) (a1a : Int) (a1b : ByteArray) (a1c : Int) (a1d : Int) (a1e : ByteArray) (a1f : Int) (a1g : Int) (a1h : ByteArray) (a1i : Int) (a1j : Bool) (a1k : Bool) (a1l : Int) (u0 : Mem) (R : PV → Mem → Prop) : Prop :=
  CallP Tryz.prog 71 [(.agg [(pI a0a), (pB a0b), (pS ⟨#[120]⟩), (.list 6 .sh a0d), (.list 6 .sh a0e), (pB a0f), (.list 7 .sh a0g)]), (.agg [(pI a1a), (pS a1b), (pI a1c), (pI a1d), (pS a1e), (pI a1f), (pI a1g), (pS a1h), (pI a1i), (pB a1j), (pB a1k), (pI a1l)]), (.list 4 .nil [])] u0 fun v u =>
  ∃ (x11pf : Fl) (x11p : List (List PV)), ∃ (x11q : Bool), v = (.tup [(.list 4 x11pf x11p), (pB x11q)]) ∧
  R (pB x11q) u

theorem G_ponderref10_Meets.ok (a0a : Int) (a0b : Bool) (a0c : ByteArray) (a0df : Fl) (a0d : List (List PV)) (a0ef : Fl) (a0e : List (List PV)) (a0f : Bool) (a0gf : Fl) (a0g : List (List PV)) (a1a : Int) (a1b : ByteArray) (a1c : Int) (a1d : Int) (a1e : ByteArray) (a1f : Int) (a1g : Int) (a1h : ByteArray) (a1i : Int) (a1j : Bool) (a1k : Bool) (a1l : Int) (u0 : Mem) (R : PV → Mem → Prop) : G_ponderref10_Meets.sh a0a a0b a0c a0df a0d a0ef a0e a0f a0gf a0g a1a a1b a1c a1d a1e a1f a1g a1h a1i a1j a1k a1l u0 R = VF ⟨Tryz.prog, 15, [2, 3], [], [], [], [], [], []⟩ ((Tryz.f42.body).getD .skip) [.tmp 4] [(.agg [(pI a0a), (pB a0b), (pS a0c), (.list 6 a0df a0d), (.list 6 a0ef a0e), (pB a0f), (.list 7 a0gf a0g)]), (.agg [(pI a1a), (pS a1b), (pI a1c), (pI a1d), (pS a1e), (pI a1f), (pI a1g), (pS a1h), (pI a1i), (pB a1j), (pB a1k), (pI a1l)])] u0 R := by kernel_rfl

theorem G_ponderref10_Meets.c {a0a : Int} {a0b : Bool} {a0c : ByteArray} {a0df : Fl} {a0d : List (List PV)} {a0ef : Fl} {a0e : List (List PV)} {a0f : Bool} {a0gf : Fl} {a0g : List (List PV)} {a1a : Int} {a1b : ByteArray} {a1c : Int} {a1d : Int} {a1e : ByteArray} {a1f : Int} {a1g : Int} {a1h : ByteArray} {a1i : Int} {a1j : Bool} {a1k : Bool} {a1l : Int} {u0 : Mem} {K : PV → Mem → Prop} (h : G_ponderref10_Meets.sh a0a a0b a0c a0df a0d a0ef a0e a0f a0gf a0g a1a a1b a1c a1d a1e a1f a1g a1h a1i a1j a1k a1l u0 K) : CallP Tryz.prog 42 [(.agg [(pI a0a), (pB a0b), (pS a0c), (.list 6 a0df a0d), (.list 6 a0ef a0e), (pB a0f), (.list 7 a0gf a0g)]), (.agg [(pI a1a), (pS a1b), (pI a1c), (pI a1d), (pS a1e), (pI a1f), (pI a1g), (pS a1h), (pI a1i), (pB a1j), (pB a1k), (pI a1l)])] u0 K :=
  VF_sound (E := ⟨Tryz.prog, 15, [2, 3], [], [], [], [], [], []⟩) (rs := [.tmp 4]) Tryz.func42 rfl rfl rfl (by kernel_rfl) (by kernel_rfl) (G_ponderref10_Meets.ok a0a a0b a0c a0df a0d a0ef a0e a0f a0gf a0g a1a a1b a1c a1d a1e a1f a1g a1h a1i a1j a1k a1l u0 K ▸ h)


/-- (*ponder/book.Map[ponder/alpha.number, ponder/api.Elem]).Drop -/
def G_book_Map_alpha_number_api_Elem_Drop.sh (a0 : Option Addr) (a1 : Int) (u0 : Mem) (R : PV → Mem → Prop) : Prop :=
  CIf (Option.isNone a0)
  (R (.tup [(.agg [(pI (0)), (pS ⟨#[]⟩), (pI (0)), (pI (0)), (pS ⟨#[]⟩), (pI (0)), (pI (0)), (pS ⟨#[]⟩), (pI (0)), (pB false), (pB false), (pI (0))]), (pB false)]) u0)
  (CJoin (α := Option Addr × Bool) (fun J =>
      nn a0
      (withPtrP (.raw (.pointer a0)) fun b o =>
        ∃ (x16 : Option Addr), rdM u0 b o 1 = some [(.raw (.pointer x16))] ∧
        (CallQ Tryz.prog 68 [(pI a1)] u0 fun v u_1 =>
          ∃ (x18a : Int), ∃ (x18b : Int), ∃ (x18c : ByteArray), ∃ (x18d : Int), ∃ (x18e : Int), ∃ (x18f : ByteArray), ∃ (x18g : Int), ∃ (x18h : Int), ∃ (x18i : ByteArray), ∃ (x18j : Int), ∃ (x18k : Bool), ∃ (x18l : Bool), ∃ (x18m : Int), v = (.agg [(pI x18a), (pI x18b), (pS x18c), (pI x18d), (pI x18e), (pS x18f), (pI x18g), (pI x18h), (pS x18i), (pI x18j), (pB x18k), (pB x18l), (pI x18m)]) ∧
          (CallP Tryz.prog 67 [(.raw (.pointer x16)), (.agg [(pI x18a), (pI x18b), (pS x18c), (pI x18d), (pI x18e), (pS x18f), (pI x18g), (pI x18h), (pS x18i), (pI x18j), (pB x18k), (pB x18l), (pI x18m)])] (Mem.or u0 u_1) fun v_1 u_2 =>
            ∃ (x19pa : Int), ∃ (x19pb : Int), ∃ (x19pc : ByteArray), ∃ (x19pd : Int), ∃ (x19pe : Int), ∃ (x19pf : ByteArray), ∃ (x19pg : Int), ∃ (x19ph : Int), ∃ (x19pi : ByteArray), ∃ (x19pj : Int), ∃ (x19pk : Bool), ∃ (x19pl : Bool), ∃ (x19pm : Int), ∃ (x19q : Bool), v_1 = (.tup [(.agg [(pI x19pa), (pI x19pb), (pS x19pc), (pI x19pd), (pI x19pe), (pS x19pf), (pI x19pg), (pI x19ph), (pS x19pi), (pI x19pj), (pB x19pk), (pB x19pl), (pI x19pm)]), (pB x19q)]) ∧
            ∀ (b7 : Nat), u_2 b7 = none →
            stM b7 0 [(pI x19pa), (pI x19pb), (pS x19pc), (pI x19pd), (pI x19pe), (pS x19pf), (pI x19pg), (pI x19ph), (pS x19pi), (pI x19pj), (pB x19pk), (pB x19pl), (pI x19pm)] (Mem.set u_2 b7 (some (.cells 105 [(pI (0)), (pI (0)), (pS ⟨#[]⟩), (pI (0)), (pI (0)), (pS ⟨#[]⟩), (pI (0)), (pI (0)), (pS ⟨#[]⟩), (pI (0)), (pB false), (pB false), (pI (0))]))) fun u_3 =>
            J ((some ⟨b7, 0, none⟩), x19q) u_3) ∧
          (∀ (b7_1 : Nat), (Mem.or u0 u_1) b7_1 = none →
            CallP Tryz.prog 67 [(.raw (.pointer x16)), (.agg [(pI x18a), (pI x18b), (pS x18c), (pI x18d), (pI x18e), (pS x18f), (pI x18g), (pI x18h), (pS x18i), (pI x18j), (pB x18k), (pB x18l), (pI x18m)])] (Mem.set (Mem.or u0 u_1) b7_1 (some (.cells 105 [(pI (0)), (pI (0)), (pS ⟨#[]⟩), (pI (0)), (pI (0)), (pS ⟨#[]⟩), (pI (0)), (pI (0)), (pS ⟨#[]⟩), (pI (0)), (pB false), (pB false), (pI (0))]))) fun v_2 u_4 =>
            ∃ (x19pa_1 : Int), ∃ (x19pb_1 : Int), ∃ (x19pc_1 : ByteArray), ∃ (x19pd_1 : Int), ∃ (x19pe_1 : Int), ∃ (x19pf_1 : ByteArray), ∃ (x19pg_1 : Int), ∃ (x19ph_1 : Int), ∃ (x19pi_1 : ByteArray), ∃ (x19pj_1 : Int), ∃ (x19pk_1 : Bool), ∃ (x19pl_1 : Bool), ∃ (x19pm_1 : Int), ∃ (x19q_1 : Bool), v_2 = (.tup [(.agg [(pI x19pa_1), (pI x19pb_1), (pS x19pc_1), (pI x19pd_1), (pI x19pe_1), (pS x19pf_1), (pI x19pg_1), (pI x19ph_1), (pS x19pi_1), (pI x19pj_1), (pB x19pk_1), (pB x19pl_1), (pI x19pm_1)]), (pB x19q_1)]) ∧
            stM b7_1 0 [(pI x19pa_1), (pI x19pb_1), (pS x19pc_1), (pI x19pd_1), (pI x19pe_1), (pS x19pf_1), (pI x19pg_1), (pI x19ph_1), (pS x19pi_1), (pI x19pj_1), (pB x19pk_1), (pB x19pl_1), (pI x19pm_1)] u_4 fun u_5 =>
            J ((some ⟨b7_1, 0, none⟩), x19q_1) u_5)) ∧
        (∀ (b7_2 : Nat), u0 b7_2 = none →
          CallQ Tryz.prog 68 [(pI a1)] (Mem.set u0 b7_2 (some (.cells 105 [(pI (0)), (pI (0)), (pS ⟨#[]⟩), (pI (0)), (pI (0)), (pS ⟨#[]⟩), (pI (0)), (pI (0)), (pS ⟨#[]⟩), (pI (0)), (pB false), (pB false), (pI (0))]))) fun v_3 u_6 =>
          ∃ (x18a_1 : Int), ∃ (x18b_1 : Int), ∃ (x18c_1 : ByteArray), ∃ (x18d_1 : Int), ∃ (x18e_1 : Int), ∃ (x18f_1 : ByteArray), ∃ (x18g_1 : Int), ∃ (x18h_1 : Int), ∃ (x18i_1 : ByteArray), ∃ (x18j_1 : Int), ∃ (x18k_1 : Bool), ∃ (x18l_1 : Bool), ∃ (x18m_1 : Int), v_3 = (.agg [(pI x18a_1), (pI x18b_1), (pS x18c_1), (pI x18d_1), (pI x18e_1), (pS x18f_1), (pI x18g_1), (pI x18h_1), (pS x18i_1), (pI x18j_1), (pB x18k_1), (pB x18l_1), (pI x18m_1)]) ∧
          CallP Tryz.prog 67 [(.raw (.pointer x16)), (.agg [(pI x18a_1), (pI x18b_1), (pS x18c_1), (pI x18d_1), (pI x18e_1), (pS x18f_1), (pI x18g_1), (pI x18h_1), (pS x18i_1), (pI x18j_1), (pB x18k_1), (pB x18l_1), (pI x18m_1)])] (Mem.or (Mem.set u0 b7_2 (some (.cells 105 [(pI (0)), (pI (0)), (pS ⟨#[]⟩), (pI (0)), (pI (0)), (pS ⟨#[]⟩), (pI (0)), (pI (0)), (pS ⟨#[]⟩), (pI (0)), (pB false), (pB false), (pI (0))]))) u_6) fun v_4 u_7 =>
          ∃ (x19pa_2 : Int), ∃ (x19pb_2 : Int), ∃ (x19pc_2 : ByteArray), ∃ (x19pd_2 : Int), ∃ (x19pe_2 : Int), ∃ (x19pf_2 : ByteArray), ∃ (x19pg_2 : Int), ∃ (x19ph_2 : Int), ∃ (x19pi_2 : ByteArray), ∃ (x19pj_2 : Int), ∃ (x19pk_2 : Bool), ∃ (x19pl_2 : Bool), ∃ (x19pm_2 : Int), ∃ (x19q_2 : Bool), v_4 = (.tup [(.agg [(pI x19pa_2), (pI x19pb_2), (pS x19pc_2), (pI x19pd_2), (pI x19pe_2), (pS x19pf_2), (pI x19pg_2), (pI x19ph_2), (pS x19pi_2), (pI x19pj_2), (pB x19pk_2), (pB x19pl_2), (pI x19pm_2)]), (pB x19q_2)]) ∧
          stM b7_2 0 [(pI x19pa_2), (pI x19pb_2), (pS x19pc_2), (pI x19pd_2), (pI x19pe_2), (pS x19pf_2), (pI x19pg_2), (pI x19ph_2), (pS x19pi_2), (pI x19pj_2), (pB x19pk_2), (pB x19pl_2), (pI x19pm_2)] u_7 fun u_8 =>
          J ((some ⟨b7_2, 0, none⟩), x19q_2) u_8)))
    (fun s u =>
      CJoin (α := Unit) (fun J_1 =>
        CIf s.2
        (nn a0
          (withPtrP (.raw (.pointer a0)) fun b_1 o_1 =>
            ∃ (x26 : Option Addr), rdM u b_1 o_1 1 = some [(.raw (.pointer x26))] ∧
            withPtrP (.raw (.pointer s.1)) fun b_2 o_2 =>
            ∃ (x27a : Int), ∃ (x27b : Int), ∃ (x27c : ByteArray), ∃ (x27d : Int), ∃ (x27e : Int), ∃ (x27f : ByteArray), ∃ (x27g : Int), ∃ (x27h : Int), ∃ (x27i : ByteArray), ∃ (x27j : Int), ∃ (x27k : Bool), ∃ (x27l : Bool), ∃ (x27m : Int), rdM u b_2 o_2 13 = some [(pI x27a), (pI x27b), (pS x27c), (pI x27d), (pI x27e), (pS x27f), (pI x27g), (pI x27h), (pS x27i), (pI x27j), (pB x27k), (pB x27l), (pI x27m)] ∧
            CallP Tryz.prog 70 [(.raw (.pointer x26)), (.agg [(pI x27a), (pI x27b), (pS x27c), (pI x27d), (pI x27e), (pS x27f), (pI x27g), (pI x27h), (pS x27i), (pI x27j), (pB x27k), (pB x27l), (pI x27m)])] u fun v_5 u_10 =>
            ∃ (x28 : Bool), v_5 = (pB x28) ∧
            J_1 () u_10))
        (J_1 () u))
      (fun s_1 u_9 =>
        withPtrP (.raw (.pointer s.1)) fun b_3 o_3 =>
        ∃ (x30a : Int), ∃ (x30b : ByteArray), ∃ (x30c : Int), ∃ (x30d : Int), ∃ (x30e : ByteArray), ∃ (x30f : Int), ∃ (x30g : Int), ∃ (x30h : ByteArray), ∃ (x30i : Int), ∃ (x30j : Bool), ∃ (x30k : Bool), ∃ (x30l : Int), rdM u_9 b_3 (o_3 + 1) 12 = some [(pI x30a), (pS x30b), (pI x30c), (pI x30d), (pS x30e), (pI x30f), (pI x30g), (pS x30h), (pI x30i), (pB x30j), (pB x30k), (pI x30l)] ∧
        R (.tup [(.agg [(pI x30a), (pS x30b), (pI x30c), (pI x30d), (pS x30e), (pI x30f), (pI x30g), (pS x30h), (pI x30i), (pB x30j), (pB x30k), (pI x30l)]), (pB s.2)]) u_9)))

theorem G_book_Map_alpha_number_api_Elem_Drop.ok (a0 : Option Addr) (a1 : Int) (u0 : Mem) (R : PV → Mem → Prop) : G_book_Map_alpha_number_api_Elem_Drop.sh a0 a1 u0 R = VF ⟨Tryz.prog, 32, [4, 6], [], [(5, ⟨[(7, .one (.raw .ptr)), (8, .one (.raw .bool))], []⟩), (7, ⟨[], []⟩)], [], [], [], []⟩ ((Tryz.f43.body).getD .skip) [.cell 4 36, .tmp 5] [(.raw (.pointer a0)), (pI a1)] u0 R := by kernel_rfl

theorem G_book_Map_alpha_number_api_Elem_Drop.c {a0 : Option Addr} {a1 : Int} {u0 : Mem} {K : PV → Mem → Prop} (h : G_book_Map_alpha_number_api_Elem_Drop.sh a0 a1 u0 K) : CallP Tryz.prog 43 [(.raw (.pointer a0)), (pI a1)] u0 K :=
  VF_sound (E := ⟨Tryz.prog, 32, [4, 6], [], [(5, ⟨[(7, .one (.raw .ptr)), (8, .one (.raw .bool))], []⟩), (7, ⟨[], []⟩)], [], [], [], []⟩) (rs := [.cell 4 36, .tmp 5]) Tryz.func43 rfl rfl rfl (by kernel_rfl) (by kernel_rfl) (G_book_Map_alpha_number_api_Elem_Drop.ok a0 a1 u0 K ▸ h)


/-- (*ponder/order.Set[ponder/alpha.tagged]).Drop -/
def G_order_Set_alpha_tagged_Drop.sh (a0 : Option Addr) (a1a : Int) (a1b : ByteArray) (a1c : Int) (a1d : Int) (a1e : ByteArray) (a1f : Int) (a1g : Int) (a1h : ByteArray) (a1i : Int) (a1j : Bool) (a1k : Bool) (a1l : Int) (u0 : Mem) (R : PV → Mem → Prop) : Prop :=
  CIf (Option.isNone a0)
  (R (pB false) u0)
  (CallP Tryz.prog 65 [(.raw (.pointer a0)), (.agg [(pI a1a), (pS a1b), (pI a1c), (pI a1d), (pS a1e), (pI a1f), (pI a1g), (pS a1h), (pI a1i), (pB a1j), (pB a1k), (pI a1l)])] u0 fun v u =>
    ∃ (x13p : Int), ∃ (x13q : Bool), v = (.tup [(pI x13p), (pB x13q)]) ∧
    CIf (!x13q)
    (R (pB false) u)
    (CallP Tryz.prog 66 [(.raw (.pointer a0))] u fun v_1 u_1 =>
       v_1 = (.tup []) ∧
      LoopI (α := Int) (fun next s u_2 =>
        nn a0
        (withPtrP (.raw (.pointer a0)) fun b o =>
          ∃ (x26 : Option Addr) (x26n x26c : Nat), rdM u_2 b o 1 = some [(.raw (.slice x26 x26n x26c))] ∧
          CIf (decide (((IntKind.wrap .i64 (s + (1))) : Int) < ((x26n : Nat) : Int)))
          (nn a0
            (withPtrP (.raw (.pointer a0)) fun b_1 o_1 =>
              ∃ (x34 : Option Addr) (x34n x34c : Nat), rdM u_2 b_1 o_1 1 = some [(.raw (.slice x34 x34n x34c))] ∧
              nn a0
              (withPtrP (.raw (.pointer a0)) fun b_2 o_2 =>
                ∃ (x39 : Option Addr) (x39n x39c : Nat), rdM u_2 b_2 o_2 1 = some [(.raw (.slice x39 x39n x39c))] ∧
                withSl x39 fun b_3 o_3 =>
                (0 : Int) ≤ (IntKind.wrap .i64 (s + (1))) ∧ (IntKind.wrap .i64 (s + (1))) < ((x39n : Nat) : Int) ∧
                ∃ (x43a : Int), ∃ (x43b : ByteArray), ∃ (x43c : Int), ∃ (x43d : Int), ∃ (x43e : ByteArray), ∃ (x43f : Int), ∃ (x43g : Int), ∃ (x43h : ByteArray), ∃ (x43i : Int), ∃ (x43j : Bool), ∃ (x43k : Bool), ∃ (x43l : Int), rdM u_2 b_3 (o_3 + Int.toNat (IntKind.wrap .i64 (s + (1))) * 12) 12 = some [(pI x43a), (pS x43b), (pI x43c), (pI x43d), (pS x43e), (pI x43f), (pI x43g), (pS x43h), (pI x43i), (pB x43j), (pB x43k), (pI x43l)] ∧
                withSl x34 fun b_4 o_4 =>
                (0 : Int) ≤ s ∧ s < ((x34n : Nat) : Int) ∧
                stM b_4 (o_4 + Int.toNat s * 12) [(pI x43a), (pS x43b), (pI x43c), (pI x43d), (pS x43e), (pI x43f), (pI x43g), (pS x43h), (pI x43i), (pB x43j), (pB x43k), (pI x43l)] u_2 fun u_3 =>
                next (IntKind.wrap .i64 (s + (1))) u_3)))
          (nn a0
            (withPtrP (.raw (.pointer a0)) fun b_5 o_5 =>
              ∃ (x49 : Option Addr) (x49n x49c : Nat), rdM u_2 b_5 o_5 1 = some [(.raw (.slice x49 x49n x49c))] ∧
              nn a0
              (withPtrP (.raw (.pointer a0)) fun b_6 o_6 =>
                ∃ (x53 : Option Addr) (x53n x53c : Nat), rdM u_2 b_6 o_6 1 = some [(.raw (.slice x53 x53n x53c))] ∧
                noSpot x49 ∧ (0 : Int) ≤ (0 : Int) ∧ (0 : Int) ≤ (IntKind.wrap .i64 (((x53n : Nat) : Int) - (1))) ∧ (IntKind.wrap .i64 (((x53n : Nat) : Int) - (1))) ≤ ((x49c : Nat) : Int) ∧ ((x49c : Nat) : Int) ≤ ((x49c : Nat) : Int) ∧
                nn a0
                (withPtrP (.raw (.pointer a0)) fun b_7 o_7 =>
                  stM b_7 o_7 [(.raw (.slice (slA x49 (Int.toNat (0 : Int)) (Int.toNat ((x49c : Nat) : Int)) 12) (Int.toNat (IntKind.wrap .i64 (((x53n : Nat) : Int) - (1))) - Int.toNat (0 : Int)) (Int.toNat ((x49c : Nat) : Int) - Int.toNat (0 : Int))))] u_2 fun u_4 =>
                  R (pB true) u_4))))))
      x13p u_1))

theorem G_order_Set_alpha_tagged_Drop.ok (a0 : Option Addr) (a1a : Int) (a1b : ByteArray) (a1c : Int) (a1d : Int) (a1e : ByteArray) (a1f : Int) (a1g : Int) (a1h : ByteArray) (a1i : Int) (a1j : Bool) (a1k : Bool) (a1l : Int) (u0 : Mem) (R : PV → Mem → Prop) : G_order_Set_alpha_tagged_Drop.sh a0 a1a a1b a1c a1d a1e a1f a1g a1h a1i a1j a1k a1l u0 R = VF ⟨Tryz.prog, 59, [3], [(8, ⟨[(7, .one (.raw (.int .i64)))], []⟩)], [], [], [], [], [26, 34, 39, 49, 53, 56]⟩ ((Tryz.f44.body).getD .skip) [.tmp 4] [(.raw (.pointer a0)), (.agg [(pI a1a), (pS a1b), (pI a1c), (pI a1d), (pS a1e), (pI a1f), (pI a1g), (pS a1h), (pI a1i), (pB a1j), (pB a1k), (pI a1l)])] u0 R := by kernel_rfl

theorem G_order_Set_alpha_tagged_Drop.c {a0 : Option Addr} {a1a : Int} {a1b : ByteArray} {a1c : Int} {a1d : Int} {a1e : ByteArray} {a1f : Int} {a1g : Int} {a1h : ByteArray} {a1i : Int} {a1j : Bool} {a1k : Bool} {a1l : Int} {u0 : Mem} {K : PV → Mem → Prop} (h : G_order_Set_alpha_tagged_Drop.sh a0 a1a a1b a1c a1d a1e a1f a1g a1h a1i a1j a1k a1l u0 K) : CallP Tryz.prog 44 [(.raw (.pointer a0)), (.agg [(pI a1a), (pS a1b), (pI a1c), (pI a1d), (pS a1e), (pI a1f), (pI a1g), (pS a1h), (pI a1i), (pB a1j), (pB a1k), (pI a1l)])] u0 K :=
  VF_sound (E := ⟨Tryz.prog, 59, [3], [(8, ⟨[(7, .one (.raw (.int .i64)))], []⟩)], [], [], [], [], [26, 34, 39, 49, 53, 56]⟩) (rs := [.tmp 4]) Tryz.func44 rfl rfl rfl (by kernel_rfl) (by kernel_rfl) (G_order_Set_alpha_tagged_Drop.ok a0 a1a a1b a1c a1d a1e a1f a1g a1h a1i a1j a1k a1l u0 K ▸ h)


/-- ponder/ponderkeep.Elems -/
def G_ponderkeep_Elems.sh (a0f : Fl) (a0 : List (List PV)) (a1f : Fl) (a1 : List (List PV)) (u0 : Mem) (R : PV → Mem → Prop) : Prop :=
  CIf ((((List.length a0 : Nat) : Int) : Int) != ((List.length a1 : Nat) : Int))
  (R (pB false) u0)
  (LoopI (α := Int) (fun next s u =>
      CIf (decide ((s : Int) < ((List.length a0 : Nat) : Int)))
      ((0 : Int) ≤ s ∧ ∃ (r19 : List PV), (a0)[Int.toNat s]? = some r19 ∧
        ∃ (x20a : Int), ∃ (x20b : ByteArray), ∃ (x20c : Int), ∃ (x20d : Int), ∃ (x20e : ByteArray), ∃ (x20f : Int), ∃ (x20g : Int), ∃ (x20h : ByteArray), ∃ (x20i : Int), ∃ (x20j : Bool), ∃ (x20k : Bool), ∃ (x20l : Int), rowM r19 0 12 = some [(pI x20a), (pS x20b), (pI x20c), (pI x20d), (pS x20e), (pI x20f), (pI x20g), (pS x20h), (pI x20i), (pB x20j), (pB x20k), (pI x20l)] ∧
        (0 : Int) ≤ s ∧ ∃ (r23 : List PV), (a1)[Int.toNat s]? = some r23 ∧
        ∃ (x24a : Int), ∃ (x24b : ByteArray), ∃ (x24c : Int), ∃ (x24d : Int), ∃ (x24e : ByteArray), ∃ (x24f : Int), ∃ (x24g : Int), ∃ (x24h : ByteArray), ∃ (x24i : Int), ∃ (x24j : Bool), ∃ (x24k : Bool), ∃ (x24l : Int), rowM r23 0 12 = some [(pI x24a), (pS x24b), (pI x24c), (pI x24d), (pS x24e), (pI x24f), (pI x24g), (pS x24h), (pI x24i), (pB x24j), (pB x24k), (pI x24l)] ∧
        CIf (!((x20a == x24a) && (strEq x20b x24b && ((x20c == x24c) && ((x20d == x24d) && (strEq x20e x24e && ((x20f == x24f) && ((x20g == x24g) && (strEq x20h x24h && ((x20i == x24i) && ((x20j == x24j) && ((x20k == x24k) && ((x20l == x24l) && true)))))))))))))
        (R (pB false) u)
        (next (IntKind.wrap .i64 (s + (1))) u))
      (R (pB true) u))
    (0) u0)

theorem G_ponderkeep_Elems.ok (a0f : Fl) (a0 : List (List PV)) (a1f : Fl) (a1 : List (List PV)) (u0 : Mem) (R : PV → Mem → Prop) : G_ponderkeep_Elems.sh a0f a0 a1f a1 u0 R = VF ⟨Tryz.prog, 26, [], [(4, ⟨[(5, .one (.raw (.int .i64)))], []⟩)], [], [], [], [], []⟩ ((Tryz.f45.body).getD .skip) [.tmp 4] [(.list 12 a0f a0), (.list 12 a1f a1)] u0 R := by kernel_rfl

theorem G_ponderkeep_Elems.c {a0f : Fl} {a0 : List (List PV)} {a1f : Fl} {a1 : List (List PV)} {u0 : Mem} {K : PV → Mem → Prop} (h : G_ponderkeep_Elems.sh a0f a0 a1f a1 u0 K) : CallP Tryz.prog 45 [(.list 12 a0f a0), (.list 12 a1f a1)] u0 K :=
  VF_sound (E := ⟨Tryz.prog, 26, [], [(4, ⟨[(5, .one (.raw (.int .i64)))], []⟩)], [], [], [], [], []⟩) (rs := [.tmp 4]) Tryz.func45 rfl rfl rfl (by kernel_rfl) (by kernel_rfl) (G_ponderkeep_Elems.ok a0f a0 a1f a1 u0 K ▸ h)


/-- ponder/ponderkeep.List[ponder/api.Elem] -/
def G_ponderkeep_List_api_Elem.sh (a0 : Fn) (a0a a0b : List PV) (u0 : Mem) (R : PV → Mem → Prop) : Prop :=
  ∀ (b3 : Nat), u0 b3 = none →
  RangeP Tryz.prog (.fn a0 a0a a0b) (fun vs RR u =>
    ∃ (x8a : Int), ∃ (x8b : ByteArray), ∃ (x8c : Int), ∃ (x8d : Int), ∃ (x8e : ByteArray), ∃ (x8f : Int), ∃ (x8g : Int), ∃ (x8h : ByteArray), ∃ (x8i : Int), ∃ (x8j : Bool), ∃ (x8k : Bool), ∃ (x8l : Int), vs = [(.agg [(pI x8a), (pS x8b), (pI x8c), (pI x8d), (pS x8e), (pI x8f), (pI x8g), (pS x8h), (pI x8i), (pB x8j), (pB x8k), (pI x8l)])] ∧
    ∃ (x9f : Fl) (x9 : List (List PV)), rdM u b3 0 1 = some [(.list 12 x9f x9)] ∧
    appL false 12 112 x9f x9 [[(pI x8a), (pS x8b), (pI x8c), (pI x8d), (pS x8e), (pI x8f), (pI x8g), (pS x8h), (pI x8i), (pB x8j), (pB x8k), (pI x8l)]] u fun f12 u_2 =>
    stM b3 0 [(.list 12 f12 (x9 ++ [[(pI x8a), (pS x8b), (pI x8c), (pI x8d), (pS x8e), (pI x8f), (pI x8g), (pS x8h), (pI x8i), (pB x8j), (pB x8k), (pI x8l)]]))] u_2 fun u_3 =>
    RR none u_3)
  (fun p u_1 =>
    PK p
    (∃ (x13f : Fl) (x13 : List (List PV)), rdM u_1 b3 0 1 = some [(.list 12 x13f x13)] ∧
      R (.list 12 x13f x13) u_1)
    (False)
    [])
  (Mem.set u0 b3 (some (.cells 28 [(.list 12 .nil [])])))

theorem G_ponderkeep_List_api_Elem.ok (a0 : Fn) (a0a a0b : List PV) (u0 : Mem) (R : PV → Mem → Prop) : G_ponderkeep_List_api_Elem.sh a0 a0a a0b u0 R = VF ⟨Tryz.prog, 14, [4], [], [], [(8, [36])], [], [], []⟩ ((Tryz.f46.body).getD .skip) [.tmp 2] [(.fn a0 a0a a0b)] u0 R := by kernel_rfl

theorem G_ponderkeep_List_api_Elem.c {a0 : Fn} {a0a a0b : List PV} {u0 : Mem} {K : PV → Mem → Prop} (h : G_ponderkeep_List_api_Elem.sh a0 a0a a0b u0 K) : CallP Tryz.prog 46 [(.fn a0 a0a a0b)] u0 K :=
  VF_sound (E := ⟨Tryz.prog, 14, [4], [], [], [(8, [36])], [], [], []⟩) (rs := [.tmp 2]) Tryz.func46 rfl rfl rfl (by kernel_rfl) (by kernel_rfl) (G_ponderkeep_List_api_Elem.ok a0 a0a a0b u0 K ▸ h)


/-- (*ponder/alpha.Net).In -/
def G_alpha_Net_In.sh (a0 : Option Addr) (a1 : Int) (u0 : Mem) (R : PV → Mem → Prop) : Prop :=
  R (.fn (.func 72) [] [(.fptr [(.raw (.pointer a0))] 0), (.fptr [(pI a1)] 0)]) u0

theorem G_alpha_Net_In.ok (a0 : Option Addr) (a1 : Int) (u0 : Mem) (R : PV → Mem → Prop) : G_alpha_Net_In.sh a0 a1 u0 R = VF ⟨Tryz.prog, 6, [], [], [], [], [2, 3], [], []⟩ ((Tryz.f47.body).getD .skip) [.tmp 4] [(.raw (.pointer a0)), (pI a1)] u0 R := by kernel_rfl

theorem G_alpha_Net_In.c {a0 : Option Addr} {a1 : Int} {u0 : Mem} {K : PV → Mem → Prop} (h : G_alpha_Net_In.sh a0 a1 u0 K) : CallP Tryz.prog 47 [(.raw (.pointer a0)), (pI a1)] u0 K :=
  VF_sound (E := ⟨Tryz.prog, 6, [], [], [], [], [2, 3], [], []⟩) (rs := [.tmp 4]) Tryz.func47 rfl rfl rfl (by kernel_rfl) (by kernel_rfl) (G_alpha_Net_In.ok a0 a1 u0 K ▸ h)


/-- ponder/order.New[ponder/book.page[ponder/alpha.number, ponder/api.Elem]] -/
def G_order_New_book_page_alpha_number_api_Elem.sh (a0f : Fl) (a0 : List (List PV)) (u0 : Mem) (R : PV → Mem → Prop) : Prop :=
  ∀ (b7 : Nat), u0 b7 = none →
  LoopI (α := Int) (fun next s u =>
    CIf (decide ((s : Int) < ((List.length a0 : Nat) : Int)))
    ((0 : Int) ≤ s ∧ ∃ (r12 : List PV), (a0)[Int.toNat s]? = some r12 ∧
      ∃ (x13a : Int), ∃ (x13b : Int), ∃ (x13c : ByteArray), ∃ (x13d : Int), ∃ (x13e : Int), ∃ (x13f : ByteArray), ∃ (x13g : Int), ∃ (x13h : Int), ∃ (x13i : ByteArray), ∃ (x13j : Int), ∃ (x13k : Bool), ∃ (x13l : Bool), ∃ (x13m : Int), rowM r12 0 13 = some [(pI x13a), (pI x13b), (pS x13c), (pI x13d), (pI x13e), (pS x13f), (pI x13g), (pI x13h), (pS x13i), (pI x13j), (pB x13k), (pB x13l), (pI x13m)] ∧
      CallP Tryz.prog 69 [(pP b7 0), (.agg [(pI x13a), (pI x13b), (pS x13c), (pI x13d), (pI x13e), (pS x13f), (pI x13g), (pI x13h), (pS x13i), (pI x13j), (pB x13k), (pB x13l), (pI x13m)])] u fun v u_1 =>
      ∃ (x16 : Bool), v = (pB x16) ∧
      next (IntKind.wrap .i64 (s + (1))) u_1)
    (R (pP b7 0) u))
  (0) (Mem.set u0 b7 (some (.cells 144 [(.list 13 .nil []), (pB false)])))

theorem G_order_New_book_page_alpha_number_api_Elem.ok (a0f : Fl) (a0 : List (List PV)) (u0 : Mem) (R : PV → Mem → Prop) : G_order_New_book_page_alpha_number_api_Elem.sh a0f a0 u0 R = VF ⟨Tryz.prog, 19, [5], [(3, ⟨[(10, .one (.raw (.int .i64)))], []⟩)], [], [], [], [], []⟩ ((Tryz.f48.body).getD .skip) [.tmp 2] [(.list 13 a0f a0)] u0 R := by kernel_rfl

theorem G_order_New_book_page_alpha_number_api_Elem.c {a0f : Fl} {a0 : List (List PV)} {u0 : Mem} {K : PV → Mem → Prop} (h : G_order_New_book_page_alpha_number_api_Elem.sh a0f a0 u0 K) : CallP Tryz.prog 48 [(.list 13 a0f a0)] u0 K :=
  VF_sound (E := ⟨Tryz.prog, 19, [5], [(3, ⟨[(10, .one (.raw (.int .i64)))], []⟩)], [], [], [], [], []⟩) (rs := [.tmp 2]) Tryz.func48 rfl rfl rfl (by kernel_rfl) (by kernel_rfl) (G_order_New_book_page_alpha_number_api_Elem.ok a0f a0 u0 K ▸ h)


/-- ponder/order.New[ponder/book.page[ponder/alpha.number, ponder/alpha.memory]] -/
def G_order_New_book_page_alpha_number_alpha_memory.sh (a0f : Fl) (a0 : List (List PV)) (u0 : Mem) (R : PV → Mem → Prop) : Prop :=
  ∀ (b7 : Nat), u0 b7 = none →
  LoopI (α := Int) (fun next s u =>
    CIf (decide ((s : Int) < ((List.length a0 : Nat) : Int)))
    ((0 : Int) ≤ s ∧ ∃ (r12 : List PV), (a0)[Int.toNat s]? = some r12 ∧
      ∃ (x13a : Int), ∃ (x13b : Int), ∃ (x13c : Bool), ∃ (x13d : ByteArray), ∃ (x13ef : Fl) (x13e : List (List PV)), ∃ (x13ff : Fl) (x13f : List (List PV)), ∃ (x13g : Bool), ∃ (x13hf : Fl) (x13h : List (List PV)), ∃ (x13i : Int), ∃ (x13j : Option Addr), rowM r12 0 10 = some [(pI x13a), (pI x13b), (pB x13c), (pS x13d), (.list 6 x13ef x13e), (.list 6 x13ff x13f), (pB x13g), (.list 7 x13hf x13h), (pI x13i), (.raw (.pointer x13j))] ∧
      CallP Tryz.prog 60 [(pP b7 0), (.agg [(pI x13a), (pI x13b), (pB x13c), (pS x13d), (.list 6 .sh x13e), (.list 6 .sh x13f), (pB x13g), (.list 7 .sh x13h), (pI x13i), (.raw (.pointer x13j))])] u fun v u_1 =>
      ∃ (x16 : Bool), v = (pB x16) ∧
      next (IntKind.wrap .i64 (s + (1))) u_1)
    (R (pP b7 0) u))
  (0) (Mem.set u0 b7 (some (.cells 147 [(.list 10 .nil []), (pB false)])))

theorem G_order_New_book_page_alpha_number_alpha_memory.ok (a0f : Fl) (a0 : List (List PV)) (u0 : Mem) (R : PV → Mem → Prop) : G_order_New_book_page_alpha_number_alpha_memory.sh a0f a0 u0 R = VF ⟨Tryz.prog, 19, [5], [(3, ⟨[(10, .one (.raw (.int .i64)))], []⟩)], [], [], [], [], []⟩ ((Tryz.f49.body).getD .skip) [.tmp 2] [(.list 10 a0f a0)] u0 R := by kernel_rfl

theorem G_order_New_book_page_alpha_number_alpha_memory.c {a0f : Fl} {a0 : List (List PV)} {u0 : Mem} {K : PV → Mem → Prop} (h : G_order_New_book_page_alpha_number_alpha_memory.sh a0f a0 u0 K) : CallP Tryz.prog 49 [(.list 10 a0f a0)] u0 K :=
  VF_sound (E := ⟨Tryz.prog, 19, [5], [(3, ⟨[(10, .one (.raw (.int .i64)))], []⟩)], [], [], [], [], []⟩) (rs := [.tmp 2]) Tryz.func49 rfl rfl rfl (by kernel_rfl) (by kernel_rfl) (G_order_New_book_page_alpha_number_alpha_memory.ok a0f a0 u0 K ▸ h)


/-- ponder/ponderkeep.heavyTests -/
def G_ponderkeep_heavyTests.sh (a0f : Fl) (a0 : List (List PV)) (u0 : Mem) (R : PV → Mem → Prop) : Prop :=
  LoopI (α := Int) (fun next s u =>
    CIf (decide ((s : Int) < ((List.length a0 : Nat) : Int)))
    ((0 : Int) ≤ s ∧ ∃ (r12 : List PV), (a0)[Int.toNat s]? = some r12 ∧
      ∃ (x14f : Fl) (x14 : List (List PV)), rowM r12 5 1 = some [(.list 3 x14f x14)] ∧
      CIf (decide ((((List.length x14 : Nat) : Int) : Int) > (20)))
      (R (pB true) u)
      ((0 : Int) ≤ s ∧ ∃ (r20 : List PV), (a0)[Int.toNat s]? = some r20 ∧
        ∃ (x22 : ByteArray), rowM r20 1 1 = some [(pS x22)] ∧
        CIf (decide ((((ByteArray.size x22 : Nat) : Int) : Int) > (100)))
        (R (pB true) u)
        ((0 : Int) ≤ s ∧ ∃ (r29 : List PV), (a0)[Int.toNat s]? = some r29 ∧
          ∃ (x32 : ByteArray), rowM r29 3 1 = some [(pS x32)] ∧
          CIf (decide ((((ByteArray.size x32 : Nat) : Int) : Int) > (100)))
          (R (pB true) u)
          (next (IntKind.wrap .i64 (s + (1))) u))))
    (R (pB false) u))
  (0) u0

theorem G_ponderkeep_heavyTests.ok (a0f : Fl) (a0 : List (List PV)) (u0 : Mem) (R : PV → Mem → Prop) : G_ponderkeep_heavyTests.sh a0f a0 u0 R = VF ⟨Tryz.prog, 36, [], [(2, ⟨[(3, .one (.raw (.int .i64)))], []⟩)], [], [], [], [], []⟩ ((Tryz.f50.body).getD .skip) [.tmp 2] [(.list 6 a0f a0)] u0 R := by kernel_rfl

theorem G_ponderkeep_heavyTests.c {a0f : Fl} {a0 : List (List PV)} {u0 : Mem} {K : PV → Mem → Prop} (h : G_ponderkeep_heavyTests.sh a0f a0 u0 K) : CallP Tryz.prog 50 [(.list 6 a0f a0)] u0 K :=
  VF_sound (E := ⟨Tryz.prog, 36, [], [(2, ⟨[(3, .one (.raw (.int .i64)))], []⟩)], [], [], [], [], []⟩) (rs := [.tmp 2]) Tryz.func50 rfl rfl rfl (by kernel_rfl) (by kernel_rfl) (G_ponderkeep_heavyTests.ok a0f a0 u0 K ▸ h)


/-- ponder/ponderlaw10.light -/
def G_ponderlaw10_light.sh (a0f : Fl) (a0 : List (List PV)) (a1 : Int) (u0 : Mem) (R : PV → Mem → Prop) : Prop :=
  CIf (decide ((((List.length a0 : Nat) : Int) : Int) > a1))
  (R (pB false) u0)
  (LoopI (α := Int) (fun next s u =>
      CIf (decide ((s : Int) < ((List.length a0 : Nat) : Int)))
      ((0 : Int) ≤ s ∧ ∃ (r18 : List PV), (a0)[Int.toNat s]? = some r18 ∧
        ∃ (x21 : ByteArray), rowM r18 1 1 = some [(pS x21)] ∧
        CIf (decide ((((ByteArray.size x21 : Nat) : Int) : Int) > (100)))
        (R (pB false) u)
        ((0 : Int) ≤ s ∧ ∃ (r27 : List PV), (a0)[Int.toNat s]? = some r27 ∧
          ∃ (x30 : ByteArray), rowM r27 4 1 = some [(pS x30)] ∧
          CIf (decide ((((ByteArray.size x30 : Nat) : Int) : Int) > (100)))
          (R (pB false) u)
          ((0 : Int) ≤ s ∧ ∃ (r37 : List PV), (a0)[Int.toNat s]? = some r37 ∧
            ∃ (x40 : ByteArray), rowM r37 7 1 = some [(pS x40)] ∧
            CIf (decide ((((ByteArray.size x40 : Nat) : Int) : Int) > (100)))
            (R (pB false) u)
            (next (IntKind.wrap .i64 (s + (1))) u))))
      (R (pB true) u))
    (0) u0)

theorem G_ponderlaw10_light.ok (a0f : Fl) (a0 : List (List PV)) (a1 : Int) (u0 : Mem) (R : PV → Mem → Prop) : G_ponderlaw10_light.sh a0f a0 a1 u0 R = VF ⟨Tryz.prog, 44, [], [(4, ⟨[(5, .one (.raw (.int .i64)))], []⟩)], [], [], [], [], []⟩ ((Tryz.f51.body).getD .skip) [.tmp 4] [(.list 12 a0f a0), (pI a1)] u0 R := by kernel_rfl

theorem G_ponderlaw10_light.c {a0f : Fl} {a0 : List (List PV)} {a1 : Int} {u0 : Mem} {K : PV → Mem → Prop} (h : G_ponderlaw10_light.sh a0f a0 a1 u0 K) : CallP Tryz.prog 51 [(.list 12 a0f a0), (pI a1)] u0 K :=
  VF_sound (E := ⟨Tryz.prog, 44, [], [(4, ⟨[(5, .one (.raw (.int .i64)))], []⟩)], [], [], [], [], []⟩) (rs := [.tmp 4]) Tryz.func51 rfl rfl rfl (by kernel_rfl) (by kernel_rfl) (G_ponderlaw10_light.ok a0f a0 a1 u0 K ▸ h)


/-- (*ponder/book.Map[ponder/alpha.number, ponder/alpha.memory]).Len -/
def G_book_Map_alpha_number_alpha_memory_Len.sh (a0 : Option Addr) (u0 : Mem) (R : PV → Mem → Prop) : Prop :=
  CIf (Option.isNone a0)
  (R (pI (0)) u0)
  (nn a0
    (withPtrP (.raw (.pointer a0)) fun b o =>
      ∃ (x8 : Option Addr), rdM u0 b o 1 = some [(.raw (.pointer x8))] ∧
      CallP Tryz.prog 74 [(.raw (.pointer x8))] u0 fun v u =>
      ∃ (x9 : Int), v = (pI x9) ∧
      R (pI x9) u))

theorem G_book_Map_alpha_number_alpha_memory_Len.ok (a0 : Option Addr) (u0 : Mem) (R : PV → Mem → Prop) : G_book_Map_alpha_number_alpha_memory_Len.sh a0 u0 R = VF ⟨Tryz.prog, 10, [], [], [], [], [], [], []⟩ ((Tryz.f52.body).getD .skip) [.tmp 2] [(.raw (.pointer a0))] u0 R := by kernel_rfl

theorem G_book_Map_alpha_number_alpha_memory_Len.c {a0 : Option Addr} {u0 : Mem} {K : PV → Mem → Prop} (h : G_book_Map_alpha_number_alpha_memory_Len.sh a0 u0 K) : CallP Tryz.prog 52 [(.raw (.pointer a0))] u0 K :=
  VF_sound (E := ⟨Tryz.prog, 10, [], [], [], [], [], [], []⟩) (rs := [.tmp 2]) Tryz.func52 rfl rfl rfl (by kernel_rfl) (by kernel_rfl) (G_book_Map_alpha_number_alpha_memory_Len.ok a0 u0 K ▸ h)


/-- ponder/ponderkeep.Tests -/
def G_ponderkeep_Tests.sh (a0f : Fl) (a0 : List (List PV)) (a1f : Fl) (a1 : List (List PV)) (u0 : Mem) (R : PV → Mem → Prop) : Prop :=
  CIf ((((List.length a0 : Nat) : Int) : Int) != ((List.length a1 : Nat) : Int))
  (R (pB false) u0)
  (LoopI (α := Int) (fun next s u =>
      CIf (decide ((s : Int) < ((List.length a0 : Nat) : Int)))
      ((0 : Int) ≤ s ∧ ∃ (r19 : List PV), (a0)[Int.toNat s]? = some r19 ∧
        ∃ (x21 : Int), rowM r19 0 1 = some [(pI x21)] ∧
        (0 : Int) ≤ s ∧ ∃ (r24 : List PV), (a1)[Int.toNat s]? = some r24 ∧
        ∃ (x26 : Int), rowM r24 0 1 = some [(pI x26)] ∧
        CIf ((x21 : Int) != x26)
        (R (pB false) u)
        ((0 : Int) ≤ s ∧ ∃ (r31 : List PV), (a0)[Int.toNat s]? = some r31 ∧
          ∃ (x33 : ByteArray), rowM r31 1 1 = some [(pS x33)] ∧
          (0 : Int) ≤ s ∧ ∃ (r36 : List PV), (a1)[Int.toNat s]? = some r36 ∧
          ∃ (x38 : ByteArray), rowM r36 1 1 = some [(pS x38)] ∧
          CIf (!strEq x33 x38)
          (R (pB false) u)
          ((0 : Int) ≤ s ∧ ∃ (r44 : List PV), (a0)[Int.toNat s]? = some r44 ∧
            ∃ (x46a : Int), ∃ (x46b : ByteArray), ∃ (x46c : Int), rowM r44 2 3 = some [(pI x46a), (pS x46b), (pI x46c)] ∧
            (0 : Int) ≤ s ∧ ∃ (r49 : List PV), (a1)[Int.toNat s]? = some r49 ∧
            ∃ (x51a : Int), ∃ (x51b : ByteArray), ∃ (x51c : Int), rowM r49 2 3 = some [(pI x51a), (pS x51b), (pI x51c)] ∧
            CIf (!((x46a == x51a) && (strEq x46b x51b && ((x46c == x51c) && true))))
            (R (pB false) u)
            ((0 : Int) ≤ s ∧ ∃ (r57 : List PV), (a0)[Int.toNat s]? = some r57 ∧
              ∃ (x59f : Fl) (x59 : List (List PV)), rowM r57 5 1 = some [(.list 3 x59f x59)] ∧
              (0 : Int) ≤ s ∧ ∃ (r62 : List PV), (a1)[Int.toNat s]? = some r62 ∧
              ∃ (x64f : Fl) (x64 : List (List PV)), rowM r62 5 1 = some [(.list 3 x64f x64)] ∧
              CallP Tryz.prog 75 [(.list 3 x59f x59), (.list 3 x64f x64)] u fun v u_1 =>
              ∃ (x65 : Bool), v = (pB x65) ∧
              CIf (!x65)
              (R (pB false) u_1)
              (next (IntKind.wrap .i64 (s + (1))) u_1)))))
      (R (pB true) u))
    (0) u0)

theorem G_ponderkeep_Tests.ok (a0f : Fl) (a0 : List (List PV)) (a1f : Fl) (a1 : List (List PV)) (u0 : Mem) (R : PV → Mem → Prop) : G_ponderkeep_Tests.sh a0f a0 a1f a1 u0 R = VF ⟨Tryz.prog, 68, [], [(4, ⟨[(5, .one (.raw (.int .i64)))], []⟩)], [], [], [], [], []⟩ ((Tryz.f53.body).getD .skip) [.tmp 4] [(.list 6 a0f a0), (.list 6 a1f a1)] u0 R := by kernel_rfl

theorem G_ponderkeep_Tests.c {a0f : Fl} {a0 : List (List PV)} {a1f : Fl} {a1 : List (List PV)} {u0 : Mem} {K : PV → Mem → Prop} (h : G_ponderkeep_Tests.sh a0f a0 a1f a1 u0 K) : CallP Tryz.prog 53 [(.list 6 a0f a0), (.list 6 a1f a1)] u0 K :=
  VF_sound (E := ⟨Tryz.prog, 68, [], [(4, ⟨[(5, .one (.raw (.int .i64)))], []⟩)], [], [], [], [], []⟩) (rs := [.tmp 4]) Tryz.func53 rfl rfl rfl (by kernel_rfl) (by kernel_rfl) (G_ponderkeep_Tests.ok a0f a0 a1f a1 u0 K ▸ h)


/-- ponder/ponderkeep.Conds -/
def G_ponderkeep_Conds.sh (a0f : Fl) (a0 : List (List PV)) (a1f : Fl) (a1 : List (List PV)) (u0 : Mem) (R : PV → Mem → Prop) : Prop :=
  CIf ((((List.length a0 : Nat) : Int) : Int) != ((List.length a1 : Nat) : Int))
  (R (pB false) u0)
  (LoopI (α := Int) (fun next s u =>
      CIf (decide ((s : Int) < ((List.length a0 : Nat) : Int)))
      ((0 : Int) ≤ s ∧ ∃ (r19 : List PV), (a0)[Int.toNat s]? = some r19 ∧
        ∃ (x20a : Int), ∃ (x20b : Bool), ∃ (x20c : ByteArray), ∃ (x20df : Fl) (x20d : List (List PV)), ∃ (x20ef : Fl) (x20e : List (List PV)), ∃ (x20f : Bool), ∃ (x20gf : Fl) (x20g : List (List PV)), rowM r19 0 7 = some [(pI x20a), (pB x20b), (pS x20c), (.list 6 x20df x20d), (.list 6 x20ef x20e), (pB x20f), (.list 7 x20gf x20g)] ∧
        (0 : Int) ≤ s ∧ ∃ (r23 : List PV), (a1)[Int.toNat s]? = some r23 ∧
        ∃ (x24a : Int), ∃ (x24b : Bool), ∃ (x24c : ByteArray), ∃ (x24df : Fl) (x24d : List (List PV)), ∃ (x24ef : Fl) (x24e : List (List PV)), ∃ (x24f : Bool), ∃ (x24gf : Fl) (x24g : List (List PV)), rowM r23 0 7 = some [(pI x24a), (pB x24b), (pS x24c), (.list 6 x24df x24d), (.list 6 x24ef x24e), (pB x24f), (.list 7 x24gf x24g)] ∧
        CallP Tryz.prog 28 [(.agg [(pI x20a), (pB x20b), (pS x20c), (.list 6 .sh x20d), (.list 6 .sh x20e), (pB x20f), (.list 7 .sh x20g)]), (.agg [(pI x24a), (pB x24b), (pS x24c), (.list 6 .sh x24d), (.list 6 .sh x24e), (pB x24f), (.list 7 .sh x24g)])] u fun v u_1 =>
        ∃ (x25 : Bool), v = (pB x25) ∧
        CIf (!x25)
        (R (pB false) u_1)
        (next (IntKind.wrap .i64 (s + (1))) u_1))
      (R (pB true) u))
    (0) u0)

theorem G_ponderkeep_Conds.ok (a0f : Fl) (a0 : List (List PV)) (a1f : Fl) (a1 : List (List PV)) (u0 : Mem) (R : PV → Mem → Prop) : G_ponderkeep_Conds.sh a0f a0 a1f a1 u0 R = VF ⟨Tryz.prog, 27, [], [(4, ⟨[(5, .one (.raw (.int .i64)))], []⟩)], [], [], [], [], []⟩ ((Tryz.f54.body).getD .skip) [.tmp 4] [(.list 7 a0f a0), (.list 7 a1f a1)] u0 R := by kernel_rfl

theorem G_ponderkeep_Conds.c {a0f : Fl} {a0 : List (List PV)} {a1f : Fl} {a1 : List (List PV)} {u0 : Mem} {K : PV → Mem → Prop} (h : G_ponderkeep_Conds.sh a0f a0 a1f a1 u0 K) : CallP Tryz.prog 54 [(.list 7 a0f a0), (.list 7 a1f a1)] u0 K :=
  VF_sound (E := ⟨Tryz.prog, 27, [], [(4, ⟨[(5, .one (.raw (.int .i64)))], []⟩)], [], [], [], [], []⟩) (rs := [.tmp 4]) Tryz.func54 rfl rfl rfl (by kernel_rfl) (by kernel_rfl) (G_ponderkeep_Conds.ok a0f a0 a1f a1 u0 K ▸ h)


/-- ponder/alpha.still -/
def G_alpha_still.sh (a0f : Fl) (a0 : List (List PV)) (u0 : Mem) (R : PV → Mem → Prop) : Prop :=
  LoopI (α := (Fl × List (List PV)) × Int) (fun next s u =>
    CIf (decide ((s.2 : Int) < ((List.length a0 : Nat) : Int)))
    ((0 : Int) ≤ s.2 ∧ ∃ (r10 : List PV), (a0)[Int.toNat s.2]? = some r10 ∧
      ∃ (x11a : Int), ∃ (x11b : ByteArray), ∃ (x11c : Int), ∃ (x11d : ByteArray), ∃ (x11e : Int), ∃ (x11ff : Fl) (x11f : List (List PV)), rowM r10 0 6 = some [(pI x11a), (pS x11b), (pI x11c), (pS x11d), (pI x11e), (.list 3 x11ff x11f)] ∧
      CIf (strEq x11b ⟨#[]⟩)
      (appL false 3 32 .nil [] x11f u fun f17 u_1 =>
        appL false 6 80 s.1.1 s.1.2 [[(pI x11a), (pS x11b), (pI x11c), (pS x11d), (pI x11e), (.list 3 .sh ([] ++ x11f))]] u_1 fun f22 u_2 =>
        next ((f22, (s.1.2 ++ [[(pI x11a), (pS x11b), (pI x11c), (pS x11d), (pI x11e), (.list 3 .sh ([] ++ x11f))]])), (IntKind.wrap .i64 (s.2 + (1)))) u_2)
      (next ((s.1.1, s.1.2), (IntKind.wrap .i64 (s.2 + (1)))) u))
    (R (.list 6 s.1.1 s.1.2) u))
  ((.nil, []), (0)) u0

theorem G_alpha_still.ok (a0f : Fl) (a0 : List (List PV)) (u0 : Mem) (R : PV → Mem → Prop) : G_alpha_still.sh a0f a0 u0 R = VF ⟨Tryz.prog, 25, [5], [(3, ⟨[(3, .one (.list 6)), (8, .one (.raw (.int .i64)))], []⟩)], [], [], [], [], []⟩ ((Tryz.f55.body).getD .skip) [.tmp 2] [(.list 6 a0f a0)] u0 R := by kernel_rfl

theorem G_alpha_still.c {a0f : Fl} {a0 : List (List PV)} {u0 : Mem} {K : PV → Mem → Prop} (h : G_alpha_still.sh a0f a0 u0 K) : CallP Tryz.prog 55 [(.list 6 a0f a0)] u0 K :=
  VF_sound (E := ⟨Tryz.prog, 25, [5], [(3, ⟨[(3, .one (.list 6)), (8, .one (.raw (.int .i64)))], []⟩)], [], [], [], [], []⟩) (rs := [.tmp 2]) Tryz.func55 rfl rfl rfl (by kernel_rfl) (by kernel_rfl) (G_alpha_still.ok a0f a0 u0 K ▸ h)


/-- (*ponder/book.Map[ponder/alpha.number, ponder/alpha.memory]).All$1 -/
def G_book_Map_alpha_number_alpha_memory_All_1.sh (a0 : Fn) (a0a a0b : List PV) (c0 : List PV) (u0 : Mem) (R : PV → Mem → Prop) : Prop :=
  ∀ (b2 : Nat), u0 b2 = none →
  ∃ (x4 : Option Addr), rowM c0 0 1 = some [(.raw (.pointer x4))] ∧
  CIf (Option.isNone x4)
  (R (.tup []) (Mem.set u0 b2 (some (.cells 84 [(.fn a0 a0a a0b)]))))
  (∃ (x6 : Option Addr), rowM c0 0 1 = some [(.raw (.pointer x6))] ∧
    nn x6
    (withPtrP (.raw (.pointer x6)) fun b o =>
      ∃ (x9 : Option Addr), rdM (Mem.set u0 b2 (some (.cells 84 [(.fn a0 a0a a0b)]))) b o 1 = some [(.raw (.pointer x9))] ∧
      CallP Tryz.prog 57 [(.raw (.pointer x9))] (Mem.set u0 b2 (some (.cells 84 [(.fn a0 a0a a0b)]))) fun v u =>
      ∃ (x10 : Fn) (x10a x10b : List PV), v = (.fn x10 x10a x10b) ∧
      RangeP Tryz.prog (.fn x10 x10a x10b) (fun vs RR u_1 =>
        ∃ (x11a : Int), ∃ (x11b : Int), ∃ (x11c : Bool), ∃ (x11d : ByteArray), ∃ (x11ef : Fl) (x11e : List (List PV)), ∃ (x11ff : Fl) (x11f : List (List PV)), ∃ (x11g : Bool), ∃ (x11hf : Fl) (x11h : List (List PV)), ∃ (x11i : Int), ∃ (x11j : Option Addr), vs = [(.agg [(pI x11a), (pI x11b), (pB x11c), (pS x11d), (.list 6 x11ef x11e), (.list 6 x11ff x11f), (pB x11g), (.list 7 x11hf x11h), (pI x11i), (.raw (.pointer x11j))])] ∧
        ∃ (x12 : Fn) (x12a x12b : List PV), rdM u_1 b2 0 1 = some [(.fn x12 x12a x12b)] ∧
        CallVP Tryz.prog (.fn x12 x12a x12b) [(pI x11a), (.agg [(pI x11b), (pB x11c), (pS x11d), (.list 6 .sh x11e), (.list 6 .sh x11f), (pB x11g), (.list 7 .sh x11h), (pI x11i), (.raw (.pointer x11j))])] u_1 fun v_1 u_3 =>
        ∃ (x17 : Bool), v_1 = (pB x17) ∧
        CIf (!x17)
        (RR (some .ret) u_3)
        (RR none u_3))
      (fun p u_2 =>
        PK p
        (R (.tup []) u_2)
        (R (.tup []) u_2)
        [])
      u))

theorem G_book_Map_alpha_number_alpha_memory_All_1.ok (a0 : Fn) (a0a a0b : List PV) (c0 : List PV) (u0 : Mem) (R : PV → Mem → Prop) : G_book_Map_alpha_number_alpha_memory_All_1.sh a0 a0a a0b c0 u0 R = VF ⟨Tryz.prog, 19, [3], [], [], [(11, [111])], [], [], []⟩ ((Tryz.f56.body).getD .skip) [] [(.fn a0 a0a a0b), (.fptr c0 0)] u0 R := by kernel_rfl

theorem G_book_Map_alpha_number_alpha_memory_All_1.c {a0 : Fn} {a0a a0b : List PV} {c0 : List PV} {u0 : Mem} {K : PV → Mem → Prop} (h : G_book_Map_alpha_number_alpha_memory_All_1.sh a0 a0a a0b c0 u0 K) : CallP Tryz.prog 56 [(.fn a0 a0a a0b), (.fptr c0 0)] u0 K :=
  VF_sound (E := ⟨Tryz.prog, 19, [3], [], [], [(11, [111])], [], [], []⟩) (rs := []) Tryz.func56 rfl rfl rfl (by kernel_rfl) (by kernel_rfl) (G_book_Map_alpha_number_alpha_memory_All_1.ok a0 a0a a0b c0 u0 K ▸ h)


/-- (*ponder/order.Set[ponder/book.page[ponder/alpha.number, ponder/alpha.memory]]).All -/
def G_order_Set_book_page_alpha_number_alpha_memory_All.sh (a0 : Option Addr) (u0 : Mem) (R : PV → Mem → Prop) : Prop :=
  R (.fn (.func 76) [] [(.fptr [(.raw (.pointer a0))] 0)]) u0

theorem G_order_Set_book_page_alpha_number_alpha_memory_All.ok (a0 : Option Addr) (u0 : Mem) (R : PV → Mem → Prop) : G_order_Set_book_page_alpha_number_alpha_memory_All.sh a0 u0 R = VF ⟨Tryz.prog, 4, [], [], [], [], [1], [], []⟩ ((Tryz.f57.body).getD .skip) [.tmp 2] [(.raw (.pointer a0))] u0 R := by kernel_rfl

theorem G_order_Set_book_page_alpha_number_alpha_memory_All.c {a0 : Option Addr} {u0 : Mem} {K : PV → Mem → Prop} (h : G_order_Set_book_page_alpha_number_alpha_memory_All.sh a0 u0 K) : CallP Tryz.prog 57 [(.raw (.pointer a0))] u0 K :=
  VF_sound (E := ⟨Tryz.prog, 4, [], [], [], [], [1], [], []⟩) (rs := [.tmp 2]) Tryz.func57 rfl rfl rfl (by kernel_rfl) (by kernel_rfl) (G_order_Set_book_page_alpha_number_alpha_memory_All.ok a0 u0 K ▸ h)


/-- (*ponder/order.Set[ponder/book.page[ponder/alpha.number, ponder/alpha.memory]]).Get -/
def G_order_Set_book_page_alpha_number_alpha_memory_Get.sh (a0 : Option Addr) (a1a : Int) (a1b : Int) (a1c : Bool) (a1d : ByteArray) (a1ef : Fl) (a1e : List (List PV)) (a1ff : Fl) (a1f : List (List PV)) (a1g : Bool) (a1hf : Fl) (a1h : List (List PV)) (a1i : Int) (a1j : Option Addr) (u0 : Mem) (R : PV → Mem → Prop) : Prop :=
  CIf (Option.isNone a0)
  (R (.tup [(.agg [(pI (0)), (pI (0)), (pB false), (pS ⟨#[]⟩), (.list 6 .nil []), (.list 6 .nil []), (pB false), (.list 7 .nil []), (pI (0)), (.raw (.pointer none))]), (pB false)]) u0)
  (CallP Tryz.prog 78 [(.raw (.pointer a0)), (.agg [(pI a1a), (pI a1b), (pB a1c), (pS a1d), (.list 6 .sh a1e), (.list 6 .sh a1f), (pB a1g), (.list 7 .sh a1h), (pI a1i), (.raw (.pointer a1j))])] u0 fun v u =>
    ∃ (x15p : Int), ∃ (x15q : Bool), v = (.tup [(pI x15p), (pB x15q)]) ∧
    CIf (!x15q)
    (R (.tup [(.agg [(pI (0)), (pI (0)), (pB false), (pS ⟨#[]⟩), (.list 6 .nil []), (.list 6 .nil []), (pB false), (.list 7 .nil []), (pI (0)), (.raw (.pointer none))]), (pB false)]) u)
    (nn a0
      (withPtrP (.raw (.pointer a0)) fun b o =>
        ∃ (x24f : Fl) (x24 : List (List PV)), rdM u b o 1 = some [(.list 10 x24f x24)] ∧
        (0 : Int) ≤ x15p ∧ ∃ (r26 : List PV), (x24)[Int.toNat x15p]? = some r26 ∧
        ∃ (x27a : Int), ∃ (x27b : Int), ∃ (x27c : Bool), ∃ (x27d : ByteArray), ∃ (x27ef : Fl) (x27e : List (List PV)), ∃ (x27ff : Fl) (x27f : List (List PV)), ∃ (x27g : Bool), ∃ (x27hf : Fl) (x27h : List (List PV)), ∃ (x27i : Int), ∃ (x27j : Option Addr), rowM r26 0 10 = some [(pI x27a), (pI x27b), (pB x27c), (pS x27d), (.list 6 x27ef x27e), (.list 6 x27ff x27f), (pB x27g), (.list 7 x27hf x27h), (pI x27i), (.raw (.pointer x27j))] ∧
        R (.tup [(.agg [(pI x27a), (pI x27b), (pB x27c), (pS x27d), (.list 6 x27ef x27e), (.list 6 x27ff x27f), (pB x27g), (.list 7 x27hf x27h), (pI x27i), (.raw (.pointer x27j))]), (pB true)]) u)))

theorem G_order_Set_book_page_alpha_number_alpha_memory_Get.ok (a0 : Option Addr) (a1a : Int) (a1b : Int) (a1c : Bool) (a1d : ByteArray) (a1ef : Fl) (a1e : List (List PV)) (a1ff : Fl) (a1f : List (List PV)) (a1g : Bool) (a1hf : Fl) (a1h : List (List PV)) (a1i : Int) (a1j : Option Addr) (u0 : Mem) (R : PV → Mem → Prop) : G_order_Set_book_page_alpha_number_alpha_memory_Get.sh a0 a1a a1b a1c a1d a1ef a1e a1ff a1f a1g a1hf a1h a1i a1j u0 R = VF ⟨Tryz.prog, 28, [3, 4, 6], [], [], [], [], [], []⟩ ((Tryz.f58.body).getD .skip) [.cell 4 111, .tmp 5] [(.raw (.pointer a0)), (.agg [(pI a1a), (pI a1b), (pB a1c), (pS a1d), (.list 6 a1ef a1e), (.list 6 a1ff a1f), (pB a1g), (.list 7 a1hf a1h), (pI a1i), (.raw (.pointer a1j))])] u0 R := by kernel_rfl

theorem G_order_Set_book_page_alpha_number_alpha_memory_Get.c {a0 : Option Addr} {a1a : Int} {a1b : Int} {a1c : Bool} {a1d : ByteArray} {a1ef : Fl} {a1e : List (List PV)} {a1ff : Fl} {a1f : List (List PV)} {a1g : Bool} {a1hf : Fl} {a1h : List (List PV)} {a1i : Int} {a1j : Option Addr} {u0 : Mem} {K : PV → Mem → Prop} (h : G_order_Set_book_page_alpha_number_alpha_memory_Get.sh a0 a1a a1b a1c a1d a1ef a1e a1ff a1f a1g a1hf a1h a1i a1j u0 K) : CallP Tryz.prog 58 [(.raw (.pointer a0)), (.agg [(pI a1a), (pI a1b), (pB a1c), (pS a1d), (.list 6 a1ef a1e), (.list 6 a1ff a1f), (pB a1g), (.list 7 a1hf a1h), (pI a1i), (.raw (.pointer a1j))])] u0 K :=
  VF_sound (E := ⟨Tryz.prog, 28, [3, 4, 6], [], [], [], [], [], []⟩) (rs := [.cell 4 111, .tmp 5]) Tryz.func58 rfl rfl rfl (by kernel_rfl) (by kernel_rfl) (G_order_Set_book_page_alpha_number_alpha_memory_Get.ok a0 a1a a1b a1c a1d a1ef a1e a1ff a1f a1g a1hf a1h a1i a1j u0 K ▸ h)


/-- (*ponder/order.Set[ponder/book.page[ponder/alpha.number, ponder/alpha.memory]]).Get -/
def G_order_Set_book_page_alpha_number_alpha_memory_Get_r.sh (a0 : Option Addr) (a1a : Int) (a1b : Int) (a1c : Bool) (a1d : ByteArray) (a1ef : Fl) (a1e : List (List PV)) (a1ff : Fl) (a1f : List (List PV)) (a1g : Bool) (a1hf : Fl) (a1h : List (List PV)) (a1i : Int) (a1j : Option Addr) (u0 : Mem) (R : PV → Mem → Prop) : Prop :=
  CIf (Option.isNone a0)
  (R (.tup [(.agg [(pI (0)), (pI (0)), (pB false), (pS ⟨#[]⟩), (.list 6 .nil []), (.list 6 .nil []), (pB false), (.list 7 .nil []), (pI (0)), (.raw (.pointer none))]), (pB false)]) u0)
  (CallP Tryz.prog 78 [(.raw (.pointer a0)), (.agg [(pI a1a), (pI a1b), (pB a1c), (pS a1d), (.list 6 .sh a1e), (.list 6 .sh a1f), (pB a1g), (.list 7 .sh a1h), (pI a1i), (.raw (.pointer a1j))])] u0 fun v u =>
    ∃ (x15p : Int), ∃ (x15q : Bool), v = (.tup [(pI x15p), (pB x15q)]) ∧
    CIf (!x15q)
    (R (.tup [(.agg [(pI (0)), (pI (0)), (pB false), (pS ⟨#[]⟩), (.list 6 .nil []), (.list 6 .nil []), (pB false), (.list 7 .nil []), (pI (0)), (.raw (.pointer none))]), (pB false)]) u)
    (nn a0
      (withPtrP (.raw (.pointer a0)) fun b o =>
        ∃ (x24 : Option Addr) (x24n x24c : Nat), rdM u b o 1 = some [(.raw (.slice x24 x24n x24c))] ∧
        withSl x24 fun b_1 o_1 =>
        (0 : Int) ≤ x15p ∧ x15p < ((x24n : Nat) : Int) ∧
        ∃ (x27a : Int), ∃ (x27b : Int), ∃ (x27c : Bool), ∃ (x27d : ByteArray), ∃ (x27ef : Fl) (x27e : List (List PV)), ∃ (x27ff : Fl) (x27f : List (List PV)), ∃ (x27g : Bool), ∃ (x27hf : Fl) (x27h : List (List PV)), ∃ (x27i : Int), ∃ (x27j : Option Addr), rdM u b_1 (o_1 + Int.toNat x15p * 10) 10 = some [(pI x27a), (pI x27b), (pB x27c), (pS x27d), (.list 6 x27ef x27e), (.list 6 x27ff x27f), (pB x27g), (.list 7 x27hf x27h), (pI x27i), (.raw (.pointer x27j))] ∧
        R (.tup [(.agg [(pI x27a), (pI x27b), (pB x27c), (pS x27d), (.list 6 x27ef x27e), (.list 6 x27ff x27f), (pB x27g), (.list 7 x27hf x27h), (pI x27i), (.raw (.pointer x27j))]), (pB true)]) u)))

theorem G_order_Set_book_page_alpha_number_alpha_memory_Get_r.ok (a0 : Option Addr) (a1a : Int) (a1b : Int) (a1c : Bool) (a1d : ByteArray) (a1ef : Fl) (a1e : List (List PV)) (a1ff : Fl) (a1f : List (List PV)) (a1g : Bool) (a1hf : Fl) (a1h : List (List PV)) (a1i : Int) (a1j : Option Addr) (u0 : Mem) (R : PV → Mem → Prop) : G_order_Set_book_page_alpha_number_alpha_memory_Get_r.sh a0 a1a a1b a1c a1d a1ef a1e a1ff a1f a1g a1hf a1h a1i a1j u0 R = VF ⟨Tryz.prog, 28, [3, 4, 6], [], [], [], [], [], [24]⟩ ((Tryz.f58.body).getD .skip) [.cell 4 111, .tmp 5] [(.raw (.pointer a0)), (.agg [(pI a1a), (pI a1b), (pB a1c), (pS a1d), (.list 6 a1ef a1e), (.list 6 a1ff a1f), (pB a1g), (.list 7 a1hf a1h), (pI a1i), (.raw (.pointer a1j))])] u0 R := by kernel_rfl

theorem G_order_Set_book_page_alpha_number_alpha_memory_Get_r.c {a0 : Option Addr} {a1a : Int} {a1b : Int} {a1c : Bool} {a1d : ByteArray} {a1ef : Fl} {a1e : List (List PV)} {a1ff : Fl} {a1f : List (List PV)} {a1g : Bool} {a1hf : Fl} {a1h : List (List PV)} {a1i : Int} {a1j : Option Addr} {u0 : Mem} {K : PV → Mem → Prop} (h : G_order_Set_book_page_alpha_number_alpha_memory_Get_r.sh a0 a1a a1b a1c a1d a1ef a1e a1ff a1f a1g a1hf a1h a1i a1j u0 K) : CallP Tryz.prog 58 [(.raw (.pointer a0)), (.agg [(pI a1a), (pI a1b), (pB a1c), (pS a1d), (.list 6 a1ef a1e), (.list 6 a1ff a1f), (pB a1g), (.list 7 a1hf a1h), (pI a1i), (.raw (.pointer a1j))])] u0 K :=
  VF_sound (E := ⟨Tryz.prog, 28, [3, 4, 6], [], [], [], [], [], [24]⟩) (rs := [.cell 4 111, .tmp 5]) Tryz.func58 rfl rfl rfl (by kernel_rfl) (by kernel_rfl) (G_order_Set_book_page_alpha_number_alpha_memory_Get_r.ok a0 a1a a1b a1c a1d a1ef a1e a1ff a1f a1g a1hf a1h a1i a1j u0 K ▸ h)


/-- ponder/book.at[ponder/alpha.number,ponder/alpha.memory] -/
def G_book_at_alpha_number_alpha_memory.sh (a0 : Int) (u0 : Mem) (R : PV → Mem → Prop) : Prop :=
  R (.agg [(pI a0), (pI (0)), (pB false), (pS ⟨#[]⟩), (.list 6 .nil []), (.list 6 .nil []), (pB false), (.list 7 .nil []), (pI (0)), (.raw (.pointer none))]) u0

theorem G_book_at_alpha_number_alpha_memory.ok (a0 : Int) (u0 : Mem) (R : PV → Mem → Prop) : G_book_at_alpha_number_alpha_memory.sh a0 u0 R = VF ⟨Tryz.prog, 5, [2], [], [], [], [], [], []⟩ ((Tryz.f59.body).getD .skip) [.cell 2 111] [(pI a0)] u0 R := by kernel_rfl

theorem G_book_at_alpha_number_alpha_memory.c {a0 : Int} {u0 : Mem} {K : PV → Mem → Prop} (h : G_book_at_alpha_number_alpha_memory.sh a0 u0 K) : CallP Tryz.prog 59 [(pI a0)] u0 K :=
  VF_sound (E := ⟨Tryz.prog, 5, [2], [], [], [], [], [], []⟩) (rs := [.cell 2 111]) Tryz.func59 rfl rfl rfl (by kernel_rfl) (by kernel_rfl) (G_book_at_alpha_number_alpha_memory.ok a0 u0 K ▸ h)


/-- (*ponder/order.Set[ponder/book.page[ponder/alpha.number, ponder/alpha.memory]]).Put -/
def G_order_Set_book_page_alpha_number_alpha_memory_Put.sh (a0 : Option Addr) (a1a : Int) (a1b : Int) (a1c : Bool) (a1d : ByteArray) (a1ef : Fl) (a1e : List (List PV)) (a1ff : Fl) (a1f : List (List PV)) (a1g : Bool) (a1hf : Fl) (a1h : List (List PV)) (a1i : Int) (a1j : Option Addr) (u0 : Mem) (R : PV → Mem → Prop) : Prop :=
  CIf (Option.isNone a0)
  (R (pB false) u0)
  (CallP Tryz.prog 78 [(.raw (.pointer a0)), (.agg [(pI a1a), (pI a1b), (pB a1c), (pS a1d), (.list 6 .sh a1e), (.list 6 .sh a1f), (pB a1g), (.list 7 .sh a1h), (pI a1i), (.raw (.pointer a1j))])] u0 fun v u =>
    ∃ (x13p : Int), ∃ (x13q : Bool), v = (.tup [(pI x13p), (pB x13q)]) ∧
    CIf x13q
    (R (pB false) u)
    (CallP Tryz.prog 79 [(.raw (.pointer a0))] u fun v_1 u_1 =>
       v_1 = (.tup []) ∧
      nn a0
      (withPtrP (.raw (.pointer a0)) fun b o =>
        ∃ (x23 : Option Addr) (x23n x23c : Nat), rdM u_1 b o 1 = some [(.raw (.slice x23 x23n x23c))] ∧
        appR 10 136 111 x23 x23n x23c (.list 10 .nr [[(pI a1a), (pI a1b), (pB a1c), (pS a1d), (.list 6 .sh a1e), (.list 6 .sh a1f), (pB a1g), (.list 7 .sh a1h), (pI a1i), (.raw (.pointer a1j))]]) u_1 fun s26 s26n s26c u_2 =>
        nn a0
        (withPtrP (.raw (.pointer a0)) fun b_1 o_1 =>
          stM b_1 o_1 [(.raw (.slice s26 s26n s26c))] u_2 fun u_3 =>
          nn a0
          (withPtrP (.raw (.pointer a0)) fun b_2 o_2 =>
            ∃ (x32 : Option Addr) (x32n x32c : Nat), rdM u_3 b_2 o_2 1 = some [(.raw (.slice x32 x32n x32c))] ∧
            LoopI (α := Int) (fun next s u_4 =>
              CIf (decide ((s : Int) > x13p))
              (nn a0
                (withPtrP (.raw (.pointer a0)) fun b_3 o_3 =>
                  ∃ (x43 : Option Addr) (x43n x43c : Nat), rdM u_4 b_3 o_3 1 = some [(.raw (.slice x43 x43n x43c))] ∧
                  nn a0
                  (withPtrP (.raw (.pointer a0)) fun b_4 o_4 =>
                    ∃ (x48 : Option Addr) (x48n x48c : Nat), rdM u_4 b_4 o_4 1 = some [(.raw (.slice x48 x48n x48c))] ∧
                    withSl x48 fun b_5 o_5 =>
                    (0 : Int) ≤ (IntKind.wrap .i64 (s - (1))) ∧ (IntKind.wrap .i64 (s - (1))) < ((x48n : Nat) : Int) ∧
                    ∃ (x52a : Int), ∃ (x52b : Int), ∃ (x52c : Bool), ∃ (x52d : ByteArray), ∃ (x52ef : Fl) (x52e : List (List PV)), ∃ (x52ff : Fl) (x52f : List (List PV)), ∃ (x52g : Bool), ∃ (x52hf : Fl) (x52h : List (List PV)), ∃ (x52i : Int), ∃ (x52j : Option Addr), rdM u_4 b_5 (o_5 + Int.toNat (IntKind.wrap .i64 (s - (1))) * 10) 10 = some [(pI x52a), (pI x52b), (pB x52c), (pS x52d), (.list 6 x52ef x52e), (.list 6 x52ff x52f), (pB x52g), (.list 7 x52hf x52h), (pI x52i), (.raw (.pointer x52j))] ∧
                    withSl x43 fun b_6 o_6 =>
                    (0 : Int) ≤ s ∧ s < ((x43n : Nat) : Int) ∧
                    stM b_6 (o_6 + Int.toNat s * 10) [(pI x52a), (pI x52b), (pB x52c), (pS x52d), (.list 6 x52ef x52e), (.list 6 x52ff x52f), (pB x52g), (.list 7 x52hf x52h), (pI x52i), (.raw (.pointer x52j))] u_4 fun u_5 =>
                    next (IntKind.wrap .i64 (s - (1))) u_5)))
              (nn a0
                (withPtrP (.raw (.pointer a0)) fun b_7 o_7 =>
                  ∃ (x57 : Option Addr) (x57n x57c : Nat), rdM u_4 b_7 o_7 1 = some [(.raw (.slice x57 x57n x57c))] ∧
                  withSl x57 fun b_8 o_8 =>
                  (0 : Int) ≤ x13p ∧ x13p < ((x57n : Nat) : Int) ∧
                  stM b_8 (o_8 + Int.toNat x13p * 10) [(pI a1a), (pI a1b), (pB a1c), (pS a1d), (.list 6 a1ef a1e), (.list 6 a1ff a1f), (pB a1g), (.list 7 a1hf a1h), (pI a1i), (.raw (.pointer a1j))] u_4 fun u_6 =>
                  R (pB true) u_6)))
            (IntKind.wrap .i64 (((x32n : Nat) : Int) - (1))) u_3)))))

theorem G_order_Set_book_page_alpha_number_alpha_memory_Put.ok (a0 : Option Addr) (a1a : Int) (a1b : Int) (a1c : Bool) (a1d : ByteArray) (a1ef : Fl) (a1e : List (List PV)) (a1ff : Fl) (a1f : List (List PV)) (a1g : Bool) (a1hf : Fl) (a1h : List (List PV)) (a1i : Int) (a1j : Option Addr) (u0 : Mem) (R : PV → Mem → Prop) : G_order_Set_book_page_alpha_number_alpha_memory_Put.sh a0 a1a a1b a1c a1d a1ef a1e a1ff a1f a1g a1hf a1h a1i a1j u0 R = VF ⟨Tryz.prog, 61, [3], [(9, ⟨[(7, .one (.raw (.int .i64)))], []⟩)], [], [], [], [], [23, 32, 43, 48, 57]⟩ ((Tryz.f60.body).getD .skip) [.tmp 4] [(.raw (.pointer a0)), (.agg [(pI a1a), (pI a1b), (pB a1c), (pS a1d), (.list 6 a1ef a1e), (.list 6 a1ff a1f), (pB a1g), (.list 7 a1hf a1h), (pI a1i), (.raw (.pointer a1j))])] u0 R := by kernel_rfl

theorem G_order_Set_book_page_alpha_number_alpha_memory_Put.c {a0 : Option Addr} {a1a : Int} {a1b : Int} {a1c : Bool} {a1d : ByteArray} {a1ef : Fl} {a1e : List (List PV)} {a1ff : Fl} {a1f : List (List PV)} {a1g : Bool} {a1hf : Fl} {a1h : List (List PV)} {a1i : Int} {a1j : Option Addr} {u0 : Mem} {K : PV → Mem → Prop} (h : G_order_Set_book_page_alpha_number_alpha_memory_Put.sh a0 a1a a1b a1c a1d a1ef a1e a1ff a1f a1g a1hf a1h a1i a1j u0 K) : CallP Tryz.prog 60 [(.raw (.pointer a0)), (.agg [(pI a1a), (pI a1b), (pB a1c), (pS a1d), (.list 6 a1ef a1e), (.list 6 a1ff a1f), (pB a1g), (.list 7 a1hf a1h), (pI a1i), (.raw (.pointer a1j))])] u0 K :=
  VF_sound (E := ⟨Tryz.prog, 61, [3], [(9, ⟨[(7, .one (.raw (.int .i64)))], []⟩)], [], [], [], [], [23, 32, 43, 48, 57]⟩) (rs := [.tmp 4]) Tryz.func60 rfl rfl rfl (by kernel_rfl) (by kernel_rfl) (G_order_Set_book_page_alpha_number_alpha_memory_Put.ok a0 a1a a1b a1c a1d a1ef a1e a1ff a1f a1g a1hf a1h a1i a1j u0 K ▸ h)


/-- (*ponder/order.Set[ponder/book.page[ponder/alpha.number, ponder/alpha.memory]]).Drop -/
def G_order_Set_book_page_alpha_number_alpha_memory_Drop.sh (a0 : Option Addr) (a1a : Int) (a1b : Int) (a1c : Bool) (a1d : ByteArray) (a1ef : Fl) (a1e : List (List PV)) (a1ff : Fl) (a1f : List (List PV)) (a1g : Bool) (a1hf : Fl) (a1h : List (List PV)) (a1i : Int) (a1j : Option Addr) (u0 : Mem) (R : PV → Mem → Prop) : Prop :=
  CIf (Option.isNone a0)
  (R (pB false) u0)
  (CallP Tryz.prog 78 [(.raw (.pointer a0)), (.agg [(pI a1a), (pI a1b), (pB a1c), (pS a1d), (.list 6 .sh a1e), (.list 6 .sh a1f), (pB a1g), (.list 7 .sh a1h), (pI a1i), (.raw (.pointer a1j))])] u0 fun v u =>
    ∃ (x13p : Int), ∃ (x13q : Bool), v = (.tup [(pI x13p), (pB x13q)]) ∧
    CIf (!x13q)
    (R (pB false) u)
    (CallP Tryz.prog 79 [(.raw (.pointer a0))] u fun v_1 u_1 =>
       v_1 = (.tup []) ∧
      LoopI (α := Int) (fun next s u_2 =>
        nn a0
        (withPtrP (.raw (.pointer a0)) fun b o =>
          ∃ (x26 : Option Addr) (x26n x26c : Nat), rdM u_2 b o 1 = some [(.raw (.slice x26 x26n x26c))] ∧
          CIf (decide (((IntKind.wrap .i64 (s + (1))) : Int) < ((x26n : Nat) : Int)))
          (nn a0
            (withPtrP (.raw (.pointer a0)) fun b_1 o_1 =>
              ∃ (x34 : Option Addr) (x34n x34c : Nat), rdM u_2 b_1 o_1 1 = some [(.raw (.slice x34 x34n x34c))] ∧
              nn a0
              (withPtrP (.raw (.pointer a0)) fun b_2 o_2 =>
                ∃ (x39 : Option Addr) (x39n x39c : Nat), rdM u_2 b_2 o_2 1 = some [(.raw (.slice x39 x39n x39c))] ∧
                withSl x39 fun b_3 o_3 =>
                (0 : Int) ≤ (IntKind.wrap .i64 (s + (1))) ∧ (IntKind.wrap .i64 (s + (1))) < ((x39n : Nat) : Int) ∧
                ∃ (x43a : Int), ∃ (x43b : Int), ∃ (x43c : Bool), ∃ (x43d : ByteArray), ∃ (x43ef : Fl) (x43e : List (List PV)), ∃ (x43ff : Fl) (x43f : List (List PV)), ∃ (x43g : Bool), ∃ (x43hf : Fl) (x43h : List (List PV)), ∃ (x43i : Int), ∃ (x43j : Option Addr), rdM u_2 b_3 (o_3 + Int.toNat (IntKind.wrap .i64 (s + (1))) * 10) 10 = some [(pI x43a), (pI x43b), (pB x43c), (pS x43d), (.list 6 x43ef x43e), (.list 6 x43ff x43f), (pB x43g), (.list 7 x43hf x43h), (pI x43i), (.raw (.pointer x43j))] ∧
                withSl x34 fun b_4 o_4 =>
                (0 : Int) ≤ s ∧ s < ((x34n : Nat) : Int) ∧
                stM b_4 (o_4 + Int.toNat s * 10) [(pI x43a), (pI x43b), (pB x43c), (pS x43d), (.list 6 x43ef x43e), (.list 6 x43ff x43f), (pB x43g), (.list 7 x43hf x43h), (pI x43i), (.raw (.pointer x43j))] u_2 fun u_3 =>
                next (IntKind.wrap .i64 (s + (1))) u_3)))
          (nn a0
            (withPtrP (.raw (.pointer a0)) fun b_5 o_5 =>
              ∃ (x49 : Option Addr) (x49n x49c : Nat), rdM u_2 b_5 o_5 1 = some [(.raw (.slice x49 x49n x49c))] ∧
              nn a0
              (withPtrP (.raw (.pointer a0)) fun b_6 o_6 =>
                ∃ (x53 : Option Addr) (x53n x53c : Nat), rdM u_2 b_6 o_6 1 = some [(.raw (.slice x53 x53n x53c))] ∧
                noSpot x49 ∧ (0 : Int) ≤ (0 : Int) ∧ (0 : Int) ≤ (IntKind.wrap .i64 (((x53n : Nat) : Int) - (1))) ∧ (IntKind.wrap .i64 (((x53n : Nat) : Int) - (1))) ≤ ((x49c : Nat) : Int) ∧ ((x49c : Nat) : Int) ≤ ((x49c : Nat) : Int) ∧
                nn a0
                (withPtrP (.raw (.pointer a0)) fun b_7 o_7 =>
                  stM b_7 o_7 [(.raw (.slice (slA x49 (Int.toNat (0 : Int)) (Int.toNat ((x49c : Nat) : Int)) 10) (Int.toNat (IntKind.wrap .i64 (((x53n : Nat) : Int) - (1))) - Int.toNat (0 : Int)) (Int.toNat ((x49c : Nat) : Int) - Int.toNat (0 : Int))))] u_2 fun u_4 =>
                  R (pB true) u_4))))))
      x13p u_1))

theorem G_order_Set_book_page_alpha_number_alpha_memory_Drop.ok (a0 : Option Addr) (a1a : Int) (a1b : Int) (a1c : Bool) (a1d : ByteArray) (a1ef : Fl) (a1e : List (List PV)) (a1ff : Fl) (a1f : List (List PV)) (a1g : Bool) (a1hf : Fl) (a1h : List (List PV)) (a1i : Int) (a1j : Option Addr) (u0 : Mem) (R : PV → Mem → Prop) : G_order_Set_book_page_alpha_number_alpha_memory_Drop.sh a0 a1a a1b a1c a1d a1ef a1e a1ff a1f a1g a1hf a1h a1i a1j u0 R = VF ⟨Tryz.prog, 59, [3], [(8, ⟨[(7, .one (.raw (.int .i64)))], []⟩)], [], [], [], [], [26, 34, 39, 49, 53, 56]⟩ ((Tryz.f61.body).getD .skip) [.tmp 4] [(.raw (.pointer a0)), (.agg [(pI a1a), (pI a1b), (pB a1c), (pS a1d), (.list 6 a1ef a1e), (.list 6 a1ff a1f), (pB a1g), (.list 7 a1hf a1h), (pI a1i), (.raw (.pointer a1j))])] u0 R := by kernel_rfl

theorem G_order_Set_book_page_alpha_number_alpha_memory_Drop.c {a0 : Option Addr} {a1a : Int} {a1b : Int} {a1c : Bool} {a1d : ByteArray} {a1ef : Fl} {a1e : List (List PV)} {a1ff : Fl} {a1f : List (List PV)} {a1g : Bool} {a1hf : Fl} {a1h : List (List PV)} {a1i : Int} {a1j : Option Addr} {u0 : Mem} {K : PV → Mem → Prop} (h : G_order_Set_book_page_alpha_number_alpha_memory_Drop.sh a0 a1a a1b a1c a1d a1ef a1e a1ff a1f a1g a1hf a1h a1i a1j u0 K) : CallP Tryz.prog 61 [(.raw (.pointer a0)), (.agg [(pI a1a), (pI a1b), (pB a1c), (pS a1d), (.list 6 a1ef a1e), (.list 6 a1ff a1f), (pB a1g), (.list 7 a1hf a1h), (pI a1i), (.raw (.pointer a1j))])] u0 K :=
  VF_sound (E := ⟨Tryz.prog, 59, [3], [(8, ⟨[(7, .one (.raw (.int .i64)))], []⟩)], [], [], [], [], [26, 34, 39, 49, 53, 56]⟩) (rs := [.tmp 4]) Tryz.func61 rfl rfl rfl (by kernel_rfl) (by kernel_rfl) (G_order_Set_book_page_alpha_number_alpha_memory_Drop.ok a0 a1a a1b a1c a1d a1ef a1e a1ff a1f a1g a1hf a1h a1i a1j u0 K ▸ h)


/-- (*ponder/book.Map[ponder/alpha.number, ponder/api.Elem]).All$1 -/
def G_book_Map_alpha_number_api_Elem_All_1.sh (a0 : Fn) (a0a a0b : List PV) (c0 : List PV) (u0 : Mem) (R : PV → Mem → Prop) : Prop :=
  ∀ (b2 : Nat), u0 b2 = none →
  ∃ (x4 : Option Addr), rowM c0 0 1 = some [(.raw (.pointer x4))] ∧
  CIf (Option.isNone x4)
  (R (.tup []) (Mem.set u0 b2 (some (.cells 96 [(.fn a0 a0a a0b)]))))
  (∃ (x6 : Option Addr), rowM c0 0 1 = some [(.raw (.pointer x6))] ∧
    nn x6
    (withPtrP (.raw (.pointer x6)) fun b o =>
      ∃ (x9 : Option Addr), rdM (Mem.set u0 b2 (some (.cells 96 [(.fn a0 a0a a0b)]))) b o 1 = some [(.raw (.pointer x9))] ∧
      CallP Tryz.prog 63 [(.raw (.pointer x9))] (Mem.set u0 b2 (some (.cells 96 [(.fn a0 a0a a0b)]))) fun v u =>
      ∃ (x10 : Fn) (x10a x10b : List PV), v = (.fn x10 x10a x10b) ∧
      RangeP Tryz.prog (.fn x10 x10a x10b) (fun vs RR u_1 =>
        ∃ (x11a : Int), ∃ (x11b : Int), ∃ (x11c : ByteArray), ∃ (x11d : Int), ∃ (x11e : Int), ∃ (x11f : ByteArray), ∃ (x11g : Int), ∃ (x11h : Int), ∃ (x11i : ByteArray), ∃ (x11j : Int), ∃ (x11k : Bool), ∃ (x11l : Bool), ∃ (x11m : Int), vs = [(.agg [(pI x11a), (pI x11b), (pS x11c), (pI x11d), (pI x11e), (pS x11f), (pI x11g), (pI x11h), (pS x11i), (pI x11j), (pB x11k), (pB x11l), (pI x11m)])] ∧
        ∃ (x12 : Fn) (x12a x12b : List PV), rdM u_1 b2 0 1 = some [(.fn x12 x12a x12b)] ∧
        CallVP Tryz.prog (.fn x12 x12a x12b) [(pI x11a), (.agg [(pI x11b), (pS x11c), (pI x11d), (pI x11e), (pS x11f), (pI x11g), (pI x11h), (pS x11i), (pI x11j), (pB x11k), (pB x11l), (pI x11m)])] u_1 fun v_1 u_3 =>
        ∃ (x17 : Bool), v_1 = (pB x17) ∧
        CIf (!x17)
        (RR (some .ret) u_3)
        (RR none u_3))
      (fun p u_2 =>
        PK p
        (R (.tup []) u_2)
        (R (.tup []) u_2)
        [])
      u))

theorem G_book_Map_alpha_number_api_Elem_All_1.ok (a0 : Fn) (a0a a0b : List PV) (c0 : List PV) (u0 : Mem) (R : PV → Mem → Prop) : G_book_Map_alpha_number_api_Elem_All_1.sh a0 a0a a0b c0 u0 R = VF ⟨Tryz.prog, 19, [3], [], [], [(11, [105])], [], [], []⟩ ((Tryz.f62.body).getD .skip) [] [(.fn a0 a0a a0b), (.fptr c0 0)] u0 R := by kernel_rfl

theorem G_book_Map_alpha_number_api_Elem_All_1.c {a0 : Fn} {a0a a0b : List PV} {c0 : List PV} {u0 : Mem} {K : PV → Mem → Prop} (h : G_book_Map_alpha_number_api_Elem_All_1.sh a0 a0a a0b c0 u0 K) : CallP Tryz.prog 62 [(.fn a0 a0a a0b), (.fptr c0 0)] u0 K :=
  VF_sound (E := ⟨Tryz.prog, 19, [3], [], [], [(11, [105])], [], [], []⟩) (rs := []) Tryz.func62 rfl rfl rfl (by kernel_rfl) (by kernel_rfl) (G_book_Map_alpha_number_api_Elem_All_1.ok a0 a0a a0b c0 u0 K ▸ h)


/-- (*ponder/order.Set[ponder/book.page[ponder/alpha.number, ponder/api.Elem]]).All -/
def G_order_Set_book_page_alpha_number_api_Elem_All.sh (a0 : Option Addr) (u0 : Mem) (R : PV → Mem → Prop) : Prop :=
  R (.fn (.func 80) [] [(.fptr [(.raw (.pointer a0))] 0)]) u0

theorem G_order_Set_book_page_alpha_number_api_Elem_All.ok (a0 : Option Addr) (u0 : Mem) (R : PV → Mem → Prop) : G_order_Set_book_page_alpha_number_api_Elem_All.sh a0 u0 R = VF ⟨Tryz.prog, 4, [], [], [], [], [1], [], []⟩ ((Tryz.f63.body).getD .skip) [.tmp 2] [(.raw (.pointer a0))] u0 R := by kernel_rfl

theorem G_order_Set_book_page_alpha_number_api_Elem_All.c {a0 : Option Addr} {u0 : Mem} {K : PV → Mem → Prop} (h : G_order_Set_book_page_alpha_number_api_Elem_All.sh a0 u0 K) : CallP Tryz.prog 63 [(.raw (.pointer a0))] u0 K :=
  VF_sound (E := ⟨Tryz.prog, 4, [], [], [], [], [1], [], []⟩) (rs := [.tmp 2]) Tryz.func63 rfl rfl rfl (by kernel_rfl) (by kernel_rfl) (G_order_Set_book_page_alpha_number_api_Elem_All.ok a0 u0 K ▸ h)


/-- ponder/test.Cond -/
def G_test_Cond.sh (a0a : Int) (a0b : Bool) (a0c : ByteArray) (a0df : Fl) (a0d : List (List PV)) (a0ef : Fl) (a0e : List (List PV)) (a0f : Bool) (a0gf : Fl) (a0g : List (List PV)) (a1a : Int) (a1b : ByteArray) (a1c : Int) (a1d : Int) (a1e : ByteArray) (a1f : Int) (a1g : Int) (a1h : ByteArray) (a1i : Int) (a1j : Bool) (a1k : Bool) (a1l : Int) (a2f : Fl) (a2 : List (List PV)) (u0 : Mem) (R : PV → Mem → Prop) : Prop :=
  CJoin (α := Unit) (fun J =>
    CIf ((a0a : Int) != (1))
    (CIf ((a0a : Int) != (2))
      (R (.tup [(.list 4 .nil []), (pB false)]) u0)
      (CIf a0b
        (CIf (!a1k)
          (R (.tup [(.list 4 .nil []), (pB false)]) u0)
          (CIf (!(a0f == a1j))
            (R (.tup [(.list 4 .nil []), (pB false)]) u0)
            (J () u0)))
        (CIf (!(a0f == a1j))
          (R (.tup [(.list 4 .nil []), (pB false)]) u0)
          (J () u0))))
    (CIf a0b
      (CIf (!a1k)
        (R (.tup [(.list 4 .nil []), (pB false)]) u0)
        (CIf (!(a0f == a1j))
          (R (.tup [(.list 4 .nil []), (pB false)]) u0)
          (J () u0)))
      (CIf (!(a0f == a1j))
        (R (.tup [(.list 4 .nil []), (pB false)]) u0)
        (J () u0))))
  (fun s u =>
    CallP Tryz.prog 82 [(.agg [(pI (1)), (pS a0c), (pI (0)), (pS ⟨#[]⟩), (pI (0)), (.list 3 .sh [])]), (.agg [(pI a1a), (pS a1b), (pI a1c)]), (.list 4 a2f a2)] u fun v u_1 =>
    ∃ (x41pf : Fl) (x41p : List (List PV)), ∃ (x41q : Bool), v = (.tup [(.list 4 x41pf x41p), (pB x41q)]) ∧
    CIf (!x41q)
    (R (.tup [(.list 4 .nil []), (pB false)]) u_1)
    (CallP Tryz.prog 83 [(.list 6 a0df a0d), (.agg [(pI a1d), (pS a1e), (pI a1f)]), (.list 4 x41pf x41p)] u_1 fun v_1 u_2 =>
      ∃ (x52pf : Fl) (x52p : List (List PV)), ∃ (x52q : Bool), v_1 = (.tup [(.list 4 x52pf x52p), (pB x52q)]) ∧
      CIf (!x52q)
      (R (.tup [(.list 4 .nil []), (pB false)]) u_2)
      (CallP Tryz.prog 83 [(.list 6 a0ef a0e), (.agg [(pI a1g), (pS a1h), (pI a1i)]), (.list 4 x52pf x52p)] u_2 fun v_2 u_3 =>
        ∃ (x63pf : Fl) (x63p : List (List PV)), ∃ (x63q : Bool), v_2 = (.tup [(.list 4 x63pf x63p), (pB x63q)]) ∧
        CIf (!x63q)
        (R (.tup [(.list 4 .nil []), (pB false)]) u_3)
        (CallP Tryz.prog 84 [(.list 4 x63pf x63p)] u_3 fun v_3 u_4 =>
          ∃ (x69f : Fl) (x69 : List (List PV)), v_3 = (.list 4 x69f x69) ∧
          R (.tup [(.list 4 x69f x69), (pB true)]) u_4))))

theorem G_test_Cond.ok (a0a : Int) (a0b : Bool) (a0c : ByteArray) (a0df : Fl) (a0d : List (List PV)) (a0ef : Fl) (a0e : List (List PV)) (a0f : Bool) (a0gf : Fl) (a0g : List (List PV)) (a1a : Int) (a1b : ByteArray) (a1c : Int) (a1d : Int) (a1e : ByteArray) (a1f : Int) (a1g : Int) (a1h : ByteArray) (a1i : Int) (a1j : Bool) (a1k : Bool) (a1l : Int) (a2f : Fl) (a2 : List (List PV)) (u0 : Mem) (R : PV → Mem → Prop) : G_test_Cond.sh a0a a0b a0c a0df a0d a0ef a0e a0f a0gf a0g a1a a1b a1c a1d a1e a1f a1g a1h a1i a1j a1k a1l a2f a2 u0 R = VF ⟨Tryz.prog, 70, [3, 4], [], [(3, ⟨[], []⟩)], [], [], [], []⟩ ((Tryz.f64.body).getD .skip) [.tmp 6, .tmp 7] [(.agg [(pI a0a), (pB a0b), (pS a0c), (.list 6 a0df a0d), (.list 6 a0ef a0e), (pB a0f), (.list 7 a0gf a0g)]), (.agg [(pI a1a), (pS a1b), (pI a1c), (pI a1d), (pS a1e), (pI a1f), (pI a1g), (pS a1h), (pI a1i), (pB a1j), (pB a1k), (pI a1l)]), (.list 4 a2f a2)] u0 R := by kernel_rfl

theorem G_test_Cond.c {a0a : Int} {a0b : Bool} {a0c : ByteArray} {a0df : Fl} {a0d : List (List PV)} {a0ef : Fl} {a0e : List (List PV)} {a0f : Bool} {a0gf : Fl} {a0g : List (List PV)} {a1a : Int} {a1b : ByteArray} {a1c : Int} {a1d : Int} {a1e : ByteArray} {a1f : Int} {a1g : Int} {a1h : ByteArray} {a1i : Int} {a1j : Bool} {a1k : Bool} {a1l : Int} {a2f : Fl} {a2 : List (List PV)} {u0 : Mem} {K : PV → Mem → Prop} (h : G_test_Cond.sh a0a a0b a0c a0df a0d a0ef a0e a0f a0gf a0g a1a a1b a1c a1d a1e a1f a1g a1h a1i a1j a1k a1l a2f a2 u0 K) : CallP Tryz.prog 64 [(.agg [(pI a0a), (pB a0b), (pS a0c), (.list 6 a0df a0d), (.list 6 a0ef a0e), (pB a0f), (.list 7 a0gf a0g)]), (.agg [(pI a1a), (pS a1b), (pI a1c), (pI a1d), (pS a1e), (pI a1f), (pI a1g), (pS a1h), (pI a1i), (pB a1j), (pB a1k), (pI a1l)]), (.list 4 a2f a2)] u0 K :=
  VF_sound (E := ⟨Tryz.prog, 70, [3, 4], [], [(3, ⟨[], []⟩)], [], [], [], []⟩) (rs := [.tmp 6, .tmp 7]) Tryz.func64 rfl rfl rfl (by kernel_rfl) (by kernel_rfl) (G_test_Cond.ok a0a a0b a0c a0df a0d a0ef a0e a0f a0gf a0g a1a a1b a1c a1d a1e a1f a1g a1h a1i a1j a1k a1l a2f a2 u0 K ▸ h)


/-- ponder/test.Cond -/
def G_test_Cond_w.sh (a0a : Int) (a0b : Bool) (a0c : ByteArray) (a0df : Fl) (a0d : List (List PV)) (a0ef : Fl) (a0e : List (List PV)) (a0f : Bool) (a0gf : Fl) (a0g : List (List PV)) (a1a : Int) (a1b : ByteArray) (a1c : Int) (a1d : Int) (a1e : ByteArray) (a1f : Int) (a1g : Int) (a1h : ByteArray) (a1i : Int) (a1j : Bool) (a1k : Bool) (a1l : Int) (a2f : Fl) (a2 : List (List PV)) (u0 : Mem) (R : PV → Mem → Prop) : Prop :=
  CJoin (α := Unit) (fun J =>
    CIf ((a0a : Int) != (1))
    (CIf ((a0a : Int) != (2))
      (R (.tup [(.list 4 .nil []), (pB false)]) u0)
      (CIf a0b
        (CIf (!a1k)
          (R (.tup [(.list 4 .nil []), (pB false)]) u0)
          (CIf (!(a0f == a1j))
            (R (.tup [(.list 4 .nil []), (pB false)]) u0)
            (J () u0)))
        (CIf (!(a0f == a1j))
          (R (.tup [(.list 4 .nil []), (pB false)]) u0)
          (J () u0))))
    (CIf a0b
      (CIf (!a1k)
        (R (.tup [(.list 4 .nil []), (pB false)]) u0)
        (CIf (!(a0f == a1j))
          (R (.tup [(.list 4 .nil []), (pB false)]) u0)
          (J () u0)))
      (CIf (!(a0f == a1j))
        (R (.tup [(.list 4 .nil []), (pB false)]) u0)
        (J () u0))))
  (fun s u =>
    CallP Tryz.prog 82 [(.agg [(pI (1)), (pS a0c), (pI (0)), (pS ⟨#[]⟩), (pI (0)), (.list 3 .sh [])]), (.agg [(pI a1a), (pS a1b), (pI a1c)]), (.list 4 a2f a2)] u fun v u_1 =>
    ∃ (x41pf : Fl) (x41p : List (List PV)), ∃ (x41q : Bool), v = (.tup [(.list 4 x41pf x41p), (pB x41q)]) ∧
    CIf (!x41q)
    (R (.tup [(.list 4 .nil []), (pB false)]) u_1)
    (CallP Tryz.prog 83 [(.list 6 a0df a0d), (.agg [(pI a1d), (pS a1e), (pI a1f)]), (.list 4 x41pf x41p)] u_1 fun v_1 u_2 =>
      ∃ (x52pf : Fl) (x52p : List (List PV)), ∃ (x52q : Bool), v_1 = (.tup [(.list 4 x52pf x52p), (pB x52q)]) ∧
      CIf (!x52q)
      (R (.tup [(.list 4 .nil []), (pB false)]) u_2)
      (CallP Tryz.prog 83 [(.list 6 a0ef a0e), (.agg [(pI a1g), (pS a1h), (pI a1i)]), (.list 4 x52pf x52p)] u_2 fun v_2 u_3 =>
        ∃ (x63pf : Fl) (x63p : List (List PV)), ∃ (x63q : Bool), v_2 = (.tup [(.list 4 x63pf x63p), (pB x63q)]) ∧
        CIf (!x63q)
        (R (.tup [(.list 4 .nil []), (pB false)]) u_3)
        (CallP Tryz.prog 84 [(.list 4 x63pf x63p)] u_3 fun v_3 u_4 =>
          ∃ (x69 : Option Addr) (x69n x69c : Nat), v_3 = (.raw (.slice x69 x69n x69c)) ∧
          R (.tup [(.raw (.slice x69 x69n x69c)), (pB true)]) u_4))))

theorem G_test_Cond_w.ok (a0a : Int) (a0b : Bool) (a0c : ByteArray) (a0df : Fl) (a0d : List (List PV)) (a0ef : Fl) (a0e : List (List PV)) (a0f : Bool) (a0gf : Fl) (a0g : List (List PV)) (a1a : Int) (a1b : ByteArray) (a1c : Int) (a1d : Int) (a1e : ByteArray) (a1f : Int) (a1g : Int) (a1h : ByteArray) (a1i : Int) (a1j : Bool) (a1k : Bool) (a1l : Int) (a2f : Fl) (a2 : List (List PV)) (u0 : Mem) (R : PV → Mem → Prop) : G_test_Cond_w.sh a0a a0b a0c a0df a0d a0ef a0e a0f a0gf a0g a1a a1b a1c a1d a1e a1f a1g a1h a1i a1j a1k a1l a2f a2 u0 R = VF ⟨Tryz.prog, 70, [3, 4], [], [(3, ⟨[], []⟩)], [], [], [], [69]⟩ ((Tryz.f64.body).getD .skip) [.tmp 6, .tmp 7] [(.agg [(pI a0a), (pB a0b), (pS a0c), (.list 6 a0df a0d), (.list 6 a0ef a0e), (pB a0f), (.list 7 a0gf a0g)]), (.agg [(pI a1a), (pS a1b), (pI a1c), (pI a1d), (pS a1e), (pI a1f), (pI a1g), (pS a1h), (pI a1i), (pB a1j), (pB a1k), (pI a1l)]), (.list 4 a2f a2)] u0 R := by kernel_rfl

theorem G_test_Cond_w.c {a0a : Int} {a0b : Bool} {a0c : ByteArray} {a0df : Fl} {a0d : List (List PV)} {a0ef : Fl} {a0e : List (List PV)} {a0f : Bool} {a0gf : Fl} {a0g : List (List PV)} {a1a : Int} {a1b : ByteArray} {a1c : Int} {a1d : Int} {a1e : ByteArray} {a1f : Int} {a1g : Int} {a1h : ByteArray} {a1i : Int} {a1j : Bool} {a1k : Bool} {a1l : Int} {a2f : Fl} {a2 : List (List PV)} {u0 : Mem} {K : PV → Mem → Prop} (h : G_test_Cond_w.sh a0a a0b a0c a0df a0d a0ef a0e a0f a0gf a0g a1a a1b a1c a1d a1e a1f a1g a1h a1i a1j a1k a1l a2f a2 u0 K) : CallP Tryz.prog 64 [(.agg [(pI a0a), (pB a0b), (pS a0c), (.list 6 a0df a0d), (.list 6 a0ef a0e), (pB a0f), (.list 7 a0gf a0g)]), (.agg [(pI a1a), (pS a1b), (pI a1c), (pI a1d), (pS a1e), (pI a1f), (pI a1g), (pS a1h), (pI a1i), (pB a1j), (pB a1k), (pI a1l)]), (.list 4 a2f a2)] u0 K :=
  VF_sound (E := ⟨Tryz.prog, 70, [3, 4], [], [(3, ⟨[], []⟩)], [], [], [], [69]⟩) (rs := [.tmp 6, .tmp 7]) Tryz.func64 rfl rfl rfl (by kernel_rfl) (by kernel_rfl) (G_test_Cond_w.ok a0a a0b a0c a0df a0d a0ef a0e a0f a0gf a0g a1a a1b a1c a1d a1e a1f a1g a1h a1i a1j a1k a1l a2f a2 u0 K ▸ h)


/-- (*ponder/order.Set[ponder/alpha.tagged]).find -/
def G_order_Set_alpha_tagged_find.sh (a0 : Option Addr) (a1a : Int) (a1b : ByteArray) (a1c : Int) (a1d : Int) (a1e : ByteArray) (a1f : Int) (a1g : Int) (a1h : ByteArray) (a1i : Int) (a1j : Bool) (a1k : Bool) (a1l : Int) (u0 : Mem) (R : PV → Mem → Prop) : Prop :=
  nn a0
  (withPtrP (.raw (.pointer a0)) fun b o =>
    ∃ (x13f : Fl) (x13 : List (List PV)), rdM u0 b o 1 = some [(.list 12 x13f x13)] ∧
    LoopI (α := Int × Int) (fun next s u =>
      CIf (decide ((s.1 : Int) < s.2))
      (((2) : Int) ≠ 0 ∧
        nn a0
        (withPtrP (.raw (.pointer a0)) fun b_1 o_1 =>
          ∃ (x27f : Fl) (x27 : List (List PV)), rdM u b_1 o_1 1 = some [(.list 12 x27f x27)] ∧
          (0 : Int) ≤ (IntKind.wrap .i64 (s.1 + (IntKind.wrap .i64 (Int.tdiv (IntKind.wrap .i64 (s.2 - s.1)) (2))))) ∧ ∃ (r29 : List PV), (x27)[Int.toNat (IntKind.wrap .i64 (s.1 + (IntKind.wrap .i64 (Int.tdiv (IntKind.wrap .i64 (s.2 - s.1)) (2)))))]? = some r29 ∧
          ∃ (x30a : Int), ∃ (x30b : ByteArray), ∃ (x30c : Int), ∃ (x30d : Int), ∃ (x30e : ByteArray), ∃ (x30f : Int), ∃ (x30g : Int), ∃ (x30h : ByteArray), ∃ (x30i : Int), ∃ (x30j : Bool), ∃ (x30k : Bool), ∃ (x30l : Int), rowM r29 0 12 = some [(pI x30a), (pS x30b), (pI x30c), (pI x30d), (pS x30e), (pI x30f), (pI x30g), (pS x30h), (pI x30i), (pB x30j), (pB x30k), (pI x30l)] ∧
          (∀ v, pv Tryz.prog (method (Tryz.prog.types.size + Made.depth) 86 v "Compare") = some (121, v)) ∧
          CallP Tryz.prog 121 [(.agg [(pI x30a), (pS x30b), (pI x30c), (pI x30d), (pS x30e), (pI x30f), (pI x30g), (pS x30h), (pI x30i), (pB x30j), (pB x30k), (pI x30l)]), (.agg [(pI a1a), (pS a1b), (pI a1c), (pI a1d), (pS a1e), (pI a1f), (pI a1g), (pS a1h), (pI a1i), (pB a1j), (pB a1k), (pI a1l)])] u fun v u_1 =>
          ∃ (x33 : Int), v = (pI x33) ∧
          CIf ((x33 : Int) == (0))
          (R (.tup [(pI (IntKind.wrap .i64 (s.1 + (IntKind.wrap .i64 (Int.tdiv (IntKind.wrap .i64 (s.2 - s.1)) (2)))))), (pB true)]) u_1)
          (CIf (decide ((x33 : Int) < (0)))
            (next ((IntKind.wrap .i64 ((IntKind.wrap .i64 (s.1 + (IntKind.wrap .i64 (Int.tdiv (IntKind.wrap .i64 (s.2 - s.1)) (2))))) + (1))), s.2) u_1)
            (next (s.1, (IntKind.wrap .i64 (s.1 + (IntKind.wrap .i64 (Int.tdiv (IntKind.wrap .i64 (s.2 - s.1)) (2)))))) u_1))))
      (R (.tup [(pI s.1), (pB false)]) u))
    ((0), ((List.length x13 : Nat) : Int)) u0)

theorem G_order_Set_alpha_tagged_find.ok (a0 : Option Addr) (a1a : Int) (a1b : ByteArray) (a1c : Int) (a1d : Int) (a1e : ByteArray) (a1f : Int) (a1g : Int) (a1h : ByteArray) (a1i : Int) (a1j : Bool) (a1k : Bool) (a1l : Int) (u0 : Mem) (R : PV → Mem → Prop) : G_order_Set_alpha_tagged_find.sh a0 a1a a1b a1c a1d a1e a1f a1g a1h a1i a1j a1k a1l u0 R = VF ⟨Tryz.prog, 43, [3], [(2, ⟨[(6, .one (.raw (.int .i64))), (7, .one (.raw (.int .i64)))], []⟩)], [], [], [], [], []⟩ ((Tryz.f65.body).getD .skip) [.tmp 4, .tmp 5] [(.raw (.pointer a0)), (.agg [(pI a1a), (pS a1b), (pI a1c), (pI a1d), (pS a1e), (pI a1f), (pI a1g), (pS a1h), (pI a1i), (pB a1j), (pB a1k), (pI a1l)])] u0 R := by kernel_rfl

theorem G_order_Set_alpha_tagged_find.c {a0 : Option Addr} {a1a : Int} {a1b : ByteArray} {a1c : Int} {a1d : Int} {a1e : ByteArray} {a1f : Int} {a1g : Int} {a1h : ByteArray} {a1i : Int} {a1j : Bool} {a1k : Bool} {a1l : Int} {u0 : Mem} {K : PV → Mem → Prop} (h : G_order_Set_alpha_tagged_find.sh a0 a1a a1b a1c a1d a1e a1f a1g a1h a1i a1j a1k a1l u0 K) : CallP Tryz.prog 65 [(.raw (.pointer a0)), (.agg [(pI a1a), (pS a1b), (pI a1c), (pI a1d), (pS a1e), (pI a1f), (pI a1g), (pS a1h), (pI a1i), (pB a1j), (pB a1k), (pI a1l)])] u0 K :=
  VF_sound (E := ⟨Tryz.prog, 43, [3], [(2, ⟨[(6, .one (.raw (.int .i64))), (7, .one (.raw (.int .i64)))], []⟩)], [], [], [], [], []⟩) (rs := [.tmp 4, .tmp 5]) Tryz.func65 rfl rfl rfl (by kernel_rfl) (by kernel_rfl) (G_order_Set_alpha_tagged_find.ok a0 a1a a1b a1c a1d a1e a1f a1g a1h a1i a1j a1k a1l u0 K ▸ h)


/-- (*ponder/order.Set[ponder/alpha.tagged]).find -/
def G_order_Set_alpha_tagged_find_r.sh (a0 : Option Addr) (a1a : Int) (a1b : ByteArray) (a1c : Int) (a1d : Int) (a1e : ByteArray) (a1f : Int) (a1g : Int) (a1h : ByteArray) (a1i : Int) (a1j : Bool) (a1k : Bool) (a1l : Int) (u0 : Mem) (R : PV → Mem → Prop) : Prop :=
  nn a0
  (withPtrP (.raw (.pointer a0)) fun b o =>
    ∃ (x13 : Option Addr) (x13n x13c : Nat), rdM u0 b o 1 = some [(.raw (.slice x13 x13n x13c))] ∧
    LoopI (α := Int × Int) (fun next s u =>
      CIf (decide ((s.1 : Int) < s.2))
      (((2) : Int) ≠ 0 ∧
        nn a0
        (withPtrP (.raw (.pointer a0)) fun b_1 o_1 =>
          ∃ (x27 : Option Addr) (x27n x27c : Nat), rdM u b_1 o_1 1 = some [(.raw (.slice x27 x27n x27c))] ∧
          withSl x27 fun b_2 o_2 =>
          (0 : Int) ≤ (IntKind.wrap .i64 (s.1 + (IntKind.wrap .i64 (Int.tdiv (IntKind.wrap .i64 (s.2 - s.1)) (2))))) ∧ (IntKind.wrap .i64 (s.1 + (IntKind.wrap .i64 (Int.tdiv (IntKind.wrap .i64 (s.2 - s.1)) (2))))) < ((x27n : Nat) : Int) ∧
          ∃ (x30a : Int), ∃ (x30b : ByteArray), ∃ (x30c : Int), ∃ (x30d : Int), ∃ (x30e : ByteArray), ∃ (x30f : Int), ∃ (x30g : Int), ∃ (x30h : ByteArray), ∃ (x30i : Int), ∃ (x30j : Bool), ∃ (x30k : Bool), ∃ (x30l : Int), rdM u b_2 (o_2 + Int.toNat (IntKind.wrap .i64 (s.1 + (IntKind.wrap .i64 (Int.tdiv (IntKind.wrap .i64 (s.2 - s.1)) (2))))) * 12) 12 = some [(pI x30a), (pS x30b), (pI x30c), (pI x30d), (pS x30e), (pI x30f), (pI x30g), (pS x30h), (pI x30i), (pB x30j), (pB x30k), (pI x30l)] ∧
          (∀ v, pv Tryz.prog (method (Tryz.prog.types.size + Made.depth) 86 v "Compare") = some (121, v)) ∧
          CallP Tryz.prog 121 [(.agg [(pI x30a), (pS x30b), (pI x30c), (pI x30d), (pS x30e), (pI x30f), (pI x30g), (pS x30h), (pI x30i), (pB x30j), (pB x30k), (pI x30l)]), (.agg [(pI a1a), (pS a1b), (pI a1c), (pI a1d), (pS a1e), (pI a1f), (pI a1g), (pS a1h), (pI a1i), (pB a1j), (pB a1k), (pI a1l)])] u fun v u_1 =>
          ∃ (x33 : Int), v = (pI x33) ∧
          CIf ((x33 : Int) == (0))
          (R (.tup [(pI (IntKind.wrap .i64 (s.1 + (IntKind.wrap .i64 (Int.tdiv (IntKind.wrap .i64 (s.2 - s.1)) (2)))))), (pB true)]) u_1)
          (CIf (decide ((x33 : Int) < (0)))
            (next ((IntKind.wrap .i64 ((IntKind.wrap .i64 (s.1 + (IntKind.wrap .i64 (Int.tdiv (IntKind.wrap .i64 (s.2 - s.1)) (2))))) + (1))), s.2) u_1)
            (next (s.1, (IntKind.wrap .i64 (s.1 + (IntKind.wrap .i64 (Int.tdiv (IntKind.wrap .i64 (s.2 - s.1)) (2)))))) u_1))))
      (R (.tup [(pI s.1), (pB false)]) u))
    ((0), ((x13n : Nat) : Int)) u0)

theorem G_order_Set_alpha_tagged_find_r.ok (a0 : Option Addr) (a1a : Int) (a1b : ByteArray) (a1c : Int) (a1d : Int) (a1e : ByteArray) (a1f : Int) (a1g : Int) (a1h : ByteArray) (a1i : Int) (a1j : Bool) (a1k : Bool) (a1l : Int) (u0 : Mem) (R : PV → Mem → Prop) : G_order_Set_alpha_tagged_find_r.sh a0 a1a a1b a1c a1d a1e a1f a1g a1h a1i a1j a1k a1l u0 R = VF ⟨Tryz.prog, 43, [3], [(2, ⟨[(6, .one (.raw (.int .i64))), (7, .one (.raw (.int .i64)))], []⟩)], [], [], [], [], [13, 27]⟩ ((Tryz.f65.body).getD .skip) [.tmp 4, .tmp 5] [(.raw (.pointer a0)), (.agg [(pI a1a), (pS a1b), (pI a1c), (pI a1d), (pS a1e), (pI a1f), (pI a1g), (pS a1h), (pI a1i), (pB a1j), (pB a1k), (pI a1l)])] u0 R := by kernel_rfl

theorem G_order_Set_alpha_tagged_find_r.c {a0 : Option Addr} {a1a : Int} {a1b : ByteArray} {a1c : Int} {a1d : Int} {a1e : ByteArray} {a1f : Int} {a1g : Int} {a1h : ByteArray} {a1i : Int} {a1j : Bool} {a1k : Bool} {a1l : Int} {u0 : Mem} {K : PV → Mem → Prop} (h : G_order_Set_alpha_tagged_find_r.sh a0 a1a a1b a1c a1d a1e a1f a1g a1h a1i a1j a1k a1l u0 K) : CallP Tryz.prog 65 [(.raw (.pointer a0)), (.agg [(pI a1a), (pS a1b), (pI a1c), (pI a1d), (pS a1e), (pI a1f), (pI a1g), (pS a1h), (pI a1i), (pB a1j), (pB a1k), (pI a1l)])] u0 K :=
  VF_sound (E := ⟨Tryz.prog, 43, [3], [(2, ⟨[(6, .one (.raw (.int .i64))), (7, .one (.raw (.int .i64)))], []⟩)], [], [], [], [], [13, 27]⟩) (rs := [.tmp 4, .tmp 5]) Tryz.func65 rfl rfl rfl (by kernel_rfl) (by kernel_rfl) (G_order_Set_alpha_tagged_find_r.ok a0 a1a a1b a1c a1d a1e a1f a1g a1h a1i a1j a1k a1l u0 K ▸ h)


/-- (*ponder/order.Set[ponder/alpha.tagged]).own -/
def G_order_Set_alpha_tagged_own.sh (a0 : Option Addr) (u0 : Mem) (R : PV → Mem → Prop) : Prop :=
  nn a0
  (withPtrP (.raw (.pointer a0)) fun b o =>
    ∃ (x5 : Bool), rdM u0 b (o + 1) 1 = some [(pB x5)] ∧
    CIf x5
    (nn a0
      (withPtrP (.raw (.pointer a0)) fun b_1 o_1 =>
        ∃ (x10f : Fl) (x10 : List (List PV)), rdM u0 b_1 o_1 1 = some [(.list 12 x10f x10)] ∧
        nn a0
        (withPtrP (.raw (.pointer a0)) fun b_2 o_2 =>
          ∃ (x17f : Fl) (x17 : List (List PV)), rdM u0 b_2 o_2 1 = some [(.list 12 x17f x17)] ∧
          (0 : Int) ≤ (0) ∧ (0) ≤ (IntKind.wrap .i64 (((List.length x10 : Nat) : Int) + (1))) ∧ (IntKind.wrap .i64 (((List.length x10 : Nat) : Int) + (1))) < (4611686018427387904 : Int) ∧ Int.toNat (IntKind.wrap .i64 (((List.length x10 : Nat) : Int) + (1))) * 112 ≤ 140737488355328 ∧
          ∀ (b13 : Nat), u0 b13 = none →
          appR 12 112 86 (some ⟨b13, 0, none⟩) (Int.toNat (0)) (Int.toNat (IntKind.wrap .i64 (((List.length x10 : Nat) : Int) + (1)))) (.list 12 x17f x17) (Mem.set u0 b13 (some (.cells 86 (List.flatten (List.replicate (Int.toNat (IntKind.wrap .i64 (((List.length x10 : Nat) : Int) + (1)))) [(pI (0)), (pS ⟨#[]⟩), (pI (0)), (pI (0)), (pS ⟨#[]⟩), (pI (0)), (pI (0)), (pS ⟨#[]⟩), (pI (0)), (pB false), (pB false), (pI (0))]))))) fun s18 s18n s18c u =>
          nn a0
          (withPtrP (.raw (.pointer a0)) fun b_3 o_3 =>
            stM b_3 o_3 [(.raw (.slice s18 s18n s18c))] u fun u_1 =>
            nn a0
            (withPtrP (.raw (.pointer a0)) fun b_4 o_4 =>
              stM b_4 (o_4 + 1) [(pB false)] u_1 fun u_2 =>
              R (.tup []) u_2)))))
    (R (.tup []) u0))

theorem G_order_Set_alpha_tagged_own.ok (a0 : Option Addr) (u0 : Mem) (R : PV → Mem → Prop) : G_order_Set_alpha_tagged_own.sh a0 u0 R = VF ⟨Tryz.prog, 24, [], [], [], [], [], [], []⟩ ((Tryz.f66.body).getD .skip) [] [(.raw (.pointer a0))] u0 R := by kernel_rfl

theorem G_order_Set_alpha_tagged_own.c {a0 : Option Addr} {u0 : Mem} {K : PV → Mem → Prop} (h : G_order_Set_alpha_tagged_own.sh a0 u0 K) : CallP Tryz.prog 66 [(.raw (.pointer a0))] u0 K :=
  VF_sound (E := ⟨Tryz.prog, 24, [], [], [], [], [], [], []⟩) (rs := []) Tryz.func66 rfl rfl rfl (by kernel_rfl) (by kernel_rfl) (G_order_Set_alpha_tagged_own.ok a0 u0 K ▸ h)


/-- (*ponder/order.Set[ponder/book.page[ponder/alpha.number, ponder/api.Elem]]).Get -/
def G_order_Set_book_page_alpha_number_api_Elem_Get.sh (a0 : Option Addr) (a1a : Int) (a1b : Int) (a1c : ByteArray) (a1d : Int) (a1e : Int) (a1f : ByteArray) (a1g : Int) (a1h : Int) (a1i : ByteArray) (a1j : Int) (a1k : Bool) (a1l : Bool) (a1m : Int) (u0 : Mem) (R : PV → Mem → Prop) : Prop :=
  CIf (Option.isNone a0)
  (R (.tup [(.agg [(pI (0)), (pI (0)), (pS ⟨#[]⟩), (pI (0)), (pI (0)), (pS ⟨#[]⟩), (pI (0)), (pI (0)), (pS ⟨#[]⟩), (pI (0)), (pB false), (pB false), (pI (0))]), (pB false)]) u0)
  (CallP Tryz.prog 85 [(.raw (.pointer a0)), (.agg [(pI a1a), (pI a1b), (pS a1c), (pI a1d), (pI a1e), (pS a1f), (pI a1g), (pI a1h), (pS a1i), (pI a1j), (pB a1k), (pB a1l), (pI a1m)])] u0 fun v u =>
    ∃ (x15p : Int), ∃ (x15q : Bool), v = (.tup [(pI x15p), (pB x15q)]) ∧
    CIf (!x15q)
    (R (.tup [(.agg [(pI (0)), (pI (0)), (pS ⟨#[]⟩), (pI (0)), (pI (0)), (pS ⟨#[]⟩), (pI (0)), (pI (0)), (pS ⟨#[]⟩), (pI (0)), (pB false), (pB false), (pI (0))]), (pB false)]) u)
    (nn a0
      (withPtrP (.raw (.pointer a0)) fun b o =>
        ∃ (x24f : Fl) (x24 : List (List PV)), rdM u b o 1 = some [(.list 13 x24f x24)] ∧
        (0 : Int) ≤ x15p ∧ ∃ (r26 : List PV), (x24)[Int.toNat x15p]? = some r26 ∧
        ∃ (x27a : Int), ∃ (x27b : Int), ∃ (x27c : ByteArray), ∃ (x27d : Int), ∃ (x27e : Int), ∃ (x27f : ByteArray), ∃ (x27g : Int), ∃ (x27h : Int), ∃ (x27i : ByteArray), ∃ (x27j : Int), ∃ (x27k : Bool), ∃ (x27l : Bool), ∃ (x27m : Int), rowM r26 0 13 = some [(pI x27a), (pI x27b), (pS x27c), (pI x27d), (pI x27e), (pS x27f), (pI x27g), (pI x27h), (pS x27i), (pI x27j), (pB x27k), (pB x27l), (pI x27m)] ∧
        R (.tup [(.agg [(pI x27a), (pI x27b), (pS x27c), (pI x27d), (pI x27e), (pS x27f), (pI x27g), (pI x27h), (pS x27i), (pI x27j), (pB x27k), (pB x27l), (pI x27m)]), (pB true)]) u)))

theorem G_order_Set_book_page_alpha_number_api_Elem_Get.ok (a0 : Option Addr) (a1a : Int) (a1b : Int) (a1c : ByteArray) (a1d : Int) (a1e : Int) (a1f : ByteArray) (a1g : Int) (a1h : Int) (a1i : ByteArray) (a1j : Int) (a1k : Bool) (a1l : Bool) (a1m : Int) (u0 : Mem) (R : PV → Mem → Prop) : G_order_Set_book_page_alpha_number_api_Elem_Get.sh a0 a1a a1b a1c a1d a1e a1f a1g a1h a1i a1j a1k a1l a1m u0 R = VF ⟨Tryz.prog, 28, [3, 4, 6], [], [], [], [], [], []⟩ ((Tryz.f67.body).getD .skip) [.cell 4 105, .tmp 5] [(.raw (.pointer a0)), (.agg [(pI a1a), (pI a1b), (pS a1c), (pI a1d), (pI a1e), (pS a1f), (pI a1g), (pI a1h), (pS a1i), (pI a1j), (pB a1k), (pB a1l), (pI a1m)])] u0 R := by kernel_rfl

theorem G_order_Set_book_page_alpha_number_api_Elem_Get.c {a0 : Option Addr} {a1a : Int} {a1b : Int} {a1c : ByteArray} {a1d : Int} {a1e : Int} {a1f : ByteArray} {a1g : Int} {a1h : Int} {a1i : ByteArray} {a1j : Int} {a1k : Bool} {a1l : Bool} {a1m : Int} {u0 : Mem} {K : PV → Mem → Prop} (h : G_order_Set_book_page_alpha_number_api_Elem_Get.sh a0 a1a a1b a1c a1d a1e a1f a1g a1h a1i a1j a1k a1l a1m u0 K) : CallP Tryz.prog 67 [(.raw (.pointer a0)), (.agg [(pI a1a), (pI a1b), (pS a1c), (pI a1d), (pI a1e), (pS a1f), (pI a1g), (pI a1h), (pS a1i), (pI a1j), (pB a1k), (pB a1l), (pI a1m)])] u0 K :=
  VF_sound (E := ⟨Tryz.prog, 28, [3, 4, 6], [], [], [], [], [], []⟩) (rs := [.cell 4 105, .tmp 5]) Tryz.func67 rfl rfl rfl (by kernel_rfl) (by kernel_rfl) (G_order_Set_book_page_alpha_number_api_Elem_Get.ok a0 a1a a1b a1c a1d a1e a1f a1g a1h a1i a1j a1k a1l a1m u0 K ▸ h)


/-- (*ponder/order.Set[ponder/book.page[ponder/alpha.number, ponder/api.Elem]]).Get -/
def G_order_Set_book_page_alpha_number_api_Elem_Get_r.sh (a0 : Option Addr) (a1a : Int) (a1b : Int) (a1c : ByteArray) (a1d : Int) (a1e : Int) (a1f : ByteArray) (a1g : Int) (a1h : Int) (a1i : ByteArray) (a1j : Int) (a1k : Bool) (a1l : Bool) (a1m : Int) (u0 : Mem) (R : PV → Mem → Prop) : Prop :=
  CIf (Option.isNone a0)
  (R (.tup [(.agg [(pI (0)), (pI (0)), (pS ⟨#[]⟩), (pI (0)), (pI (0)), (pS ⟨#[]⟩), (pI (0)), (pI (0)), (pS ⟨#[]⟩), (pI (0)), (pB false), (pB false), (pI (0))]), (pB false)]) u0)
  (CallP Tryz.prog 85 [(.raw (.pointer a0)), (.agg [(pI a1a), (pI a1b), (pS a1c), (pI a1d), (pI a1e), (pS a1f), (pI a1g), (pI a1h), (pS a1i), (pI a1j), (pB a1k), (pB a1l), (pI a1m)])] u0 fun v u =>
    ∃ (x15p : Int), ∃ (x15q : Bool), v = (.tup [(pI x15p), (pB x15q)]) ∧
    CIf (!x15q)
    (R (.tup [(.agg [(pI (0)), (pI (0)), (pS ⟨#[]⟩), (pI (0)), (pI (0)), (pS ⟨#[]⟩), (pI (0)), (pI (0)), (pS ⟨#[]⟩), (pI (0)), (pB false), (pB false), (pI (0))]), (pB false)]) u)
    (nn a0
      (withPtrP (.raw (.pointer a0)) fun b o =>
        ∃ (x24 : Option Addr) (x24n x24c : Nat), rdM u b o 1 = some [(.raw (.slice x24 x24n x24c))] ∧
        withSl x24 fun b_1 o_1 =>
        (0 : Int) ≤ x15p ∧ x15p < ((x24n : Nat) : Int) ∧
        ∃ (x27a : Int), ∃ (x27b : Int), ∃ (x27c : ByteArray), ∃ (x27d : Int), ∃ (x27e : Int), ∃ (x27f : ByteArray), ∃ (x27g : Int), ∃ (x27h : Int), ∃ (x27i : ByteArray), ∃ (x27j : Int), ∃ (x27k : Bool), ∃ (x27l : Bool), ∃ (x27m : Int), rdM u b_1 (o_1 + Int.toNat x15p * 13) 13 = some [(pI x27a), (pI x27b), (pS x27c), (pI x27d), (pI x27e), (pS x27f), (pI x27g), (pI x27h), (pS x27i), (pI x27j), (pB x27k), (pB x27l), (pI x27m)] ∧
        R (.tup [(.agg [(pI x27a), (pI x27b), (pS x27c), (pI x27d), (pI x27e), (pS x27f), (pI x27g), (pI x27h), (pS x27i), (pI x27j), (pB x27k), (pB x27l), (pI x27m)]), (pB true)]) u)))

theorem G_order_Set_book_page_alpha_number_api_Elem_Get_r.ok (a0 : Option Addr) (a1a : Int) (a1b : Int) (a1c : ByteArray) (a1d : Int) (a1e : Int) (a1f : ByteArray) (a1g : Int) (a1h : Int) (a1i : ByteArray) (a1j : Int) (a1k : Bool) (a1l : Bool) (a1m : Int) (u0 : Mem) (R : PV → Mem → Prop) : G_order_Set_book_page_alpha_number_api_Elem_Get_r.sh a0 a1a a1b a1c a1d a1e a1f a1g a1h a1i a1j a1k a1l a1m u0 R = VF ⟨Tryz.prog, 28, [3, 4, 6], [], [], [], [], [], [24]⟩ ((Tryz.f67.body).getD .skip) [.cell 4 105, .tmp 5] [(.raw (.pointer a0)), (.agg [(pI a1a), (pI a1b), (pS a1c), (pI a1d), (pI a1e), (pS a1f), (pI a1g), (pI a1h), (pS a1i), (pI a1j), (pB a1k), (pB a1l), (pI a1m)])] u0 R := by kernel_rfl

theorem G_order_Set_book_page_alpha_number_api_Elem_Get_r.c {a0 : Option Addr} {a1a : Int} {a1b : Int} {a1c : ByteArray} {a1d : Int} {a1e : Int} {a1f : ByteArray} {a1g : Int} {a1h : Int} {a1i : ByteArray} {a1j : Int} {a1k : Bool} {a1l : Bool} {a1m : Int} {u0 : Mem} {K : PV → Mem → Prop} (h : G_order_Set_book_page_alpha_number_api_Elem_Get_r.sh a0 a1a a1b a1c a1d a1e a1f a1g a1h a1i a1j a1k a1l a1m u0 K) : CallP Tryz.prog 67 [(.raw (.pointer a0)), (.agg [(pI a1a), (pI a1b), (pS a1c), (pI a1d), (pI a1e), (pS a1f), (pI a1g), (pI a1h), (pS a1i), (pI a1j), (pB a1k), (pB a1l), (pI a1m)])] u0 K :=
  VF_sound (E := ⟨Tryz.prog, 28, [3, 4, 6], [], [], [], [], [], [24]⟩) (rs := [.cell 4 105, .tmp 5]) Tryz.func67 rfl rfl rfl (by kernel_rfl) (by kernel_rfl) (G_order_Set_book_page_alpha_number_api_Elem_Get_r.ok a0 a1a a1b a1c a1d a1e a1f a1g a1h a1i a1j a1k a1l a1m u0 K ▸ h)


/-- ponder/book.at[ponder/alpha.number,ponder/api.Elem] -/
def G_book_at_alpha_number_api_Elem.sh (a0 : Int) (u0 : Mem) (R : PV → Mem → Prop) : Prop :=
  R (.agg [(pI a0), (pI (0)), (pS ⟨#[]⟩), (pI (0)), (pI (0)), (pS ⟨#[]⟩), (pI (0)), (pI (0)), (pS ⟨#[]⟩), (pI (0)), (pB false), (pB false), (pI (0))]) u0

theorem G_book_at_alpha_number_api_Elem.ok (a0 : Int) (u0 : Mem) (R : PV → Mem → Prop) : G_book_at_alpha_number_api_Elem.sh a0 u0 R = VF ⟨Tryz.prog, 5, [2], [], [], [], [], [], []⟩ ((Tryz.f68.body).getD .skip) [.cell 2 105] [(pI a0)] u0 R := by kernel_rfl

theorem G_book_at_alpha_number_api_Elem.c {a0 : Int} {u0 : Mem} {K : PV → Mem → Prop} (h : G_book_at_alpha_number_api_Elem.sh a0 u0 K) : CallP Tryz.prog 68 [(pI a0)] u0 K :=
  VF_sound (E := ⟨Tryz.prog, 5, [2], [], [], [], [], [], []⟩) (rs := [.cell 2 105]) Tryz.func68 rfl rfl rfl (by kernel_rfl) (by kernel_rfl) (G_book_at_alpha_number_api_Elem.ok a0 u0 K ▸ h)


end Go.Proofs.YtdiimonfmdbclaaGreat
