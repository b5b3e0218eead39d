import Derived.Test.YtdiimonfmdbclaaQ06
import Derived.Test.YtdiimonfmdbclaaChecked
import Derived.KernelRfl
/- What functions of the program ask of plain values: printed, and held against the code by the kernel. -/
namespace Go.Proofs.Ytdiimonfmdbclaa
open Go.Eng
set_option maxRecDepth 100000
set_option linter.unusedVariables false

/-- ponder/ponderlaw12.AlphaBare -/
def G_ponderlaw12_AlphaBare.sh (a0a : Int) (a0b : Bool) (a0c : ByteArray) (a0df : Fl) (a0d : List (List PV)) (a0ef : Fl) (a0e : List (List PV)) (a0f : Bool) (a0gf : Fl) (a0g : List (List PV)) (u0 : Mem) (R : PV → Mem → Prop) : Prop :=
  CJoin (α := Bool) (fun J =>
    CallP Try.prog 7 [(.list 7 .nr [[(pI a0a), (pB a0b), (pS a0c), (.list 6 .sh a0d), (.list 6 .sh a0e), (pB a0f), (.list 7 .sh a0g)]]), (pI (20)), (pI (0))] u0 fun v u_1 =>
    ∃ (x8 : Int), v = (pI x8) ∧
    CIf (decide ((x8 : Int) > (20)))
    (J true u_1)
    (CallP Try.prog 8 [(.list 7 .nr [[(pI a0a), (pB a0b), (pS a0c), (.list 6 .sh a0d), (.list 6 .sh a0e), (pB a0f), (.list 7 .sh a0g)]])] u_1 fun v_1 u_2 =>
      ∃ (x13 : Bool), v_1 = (pB x13) ∧
      J x13 u_2))
  (fun s u =>
    CIf s
    (CallP Try.prog 9 [] u fun v_2 u_3 =>
      ∃ (x15 : Bool), v_2 = (pB x15) ∧
      R (pB x15) u_3)
    (CallP Try.prog 10 [(.agg [(pI a0a), (pB a0b), (pS a0c), (.list 6 .sh a0d), (.list 6 .sh a0e), (pB a0f), (.list 7 .sh a0g)])] u fun v_3 u_4 =>
      ∃ (x17a : Int), ∃ (x17b : Bool), ∃ (x17c : ByteArray), ∃ (x17df : Fl) (x17d : List (List PV)), ∃ (x17ef : Fl) (x17e : List (List PV)), ∃ (x17f : Bool), ∃ (x17gf : Fl) (x17g : List (List PV)), v_3 = (.agg [(pI x17a), (pB x17b), (pS x17c), (.list 6 x17df x17d), (.list 6 x17ef x17e), (pB x17f), (.list 7 x17gf x17g)]) ∧
      CallP Try.prog 11 [(.agg [(pI x17a), (pB x17b), (pS x17c), (.list 6 .sh x17d), (.list 6 .sh x17e), (pB x17f), (.list 7 .sh x17g)])] u_4 fun v_4 u_5 =>
      ∃ (x19a : Int), ∃ (x19b : Bool), ∃ (x19c : ByteArray), ∃ (x19d : Option Addr) (x19dn x19dc : Nat), ∃ (x19e : Option Addr) (x19en x19ec : Nat), ∃ (x19f : Bool), ∃ (x19g : Option Addr) (x19gn x19gc : Nat), v_4 = (.agg [(pI x19a), (pB x19b), (pS x19c), (.raw (.slice x19d x19dn x19dc)), (.raw (.slice x19e x19en x19ec)), (pB x19f), (.raw (.slice x19g x19gn x19gc))]) ∧
      ∀ (b4 : Nat), u_5 b4 = none →
      stM b4 0 [(pI x19a), (pB x19b), (pS x19c), (.raw (.slice x19d x19dn x19dc)), (.raw (.slice x19e x19en x19ec)), (pB x19f), (.raw (.slice x19g x19gn x19gc))] (Mem.set u_5 b4 (some (.cells 25 [(pI (0)), (pB false), (pS ⟨#[]⟩), (.raw (.slice none 0 0)), (.raw (.slice none 0 0)), (pB false), (.raw (.slice none 0 0))]))) fun u_6 =>
      CallP Try.prog 12 [(.agg [(pI a0a), (pB a0b), (pS a0c), (.list 6 .sh a0d), (.list 6 .sh a0e), (pB a0f), (.list 7 .sh a0g)])] u_6 fun v_5 u_7 =>
      ∃ (x21a : Int), ∃ (x21b : Bool), ∃ (x21c : ByteArray), ∃ (x21df : Fl) (x21d : List (List PV)), ∃ (x21ef : Fl) (x21e : List (List PV)), ∃ (x21f : Bool), ∃ (x21gf : Fl) (x21g : List (List PV)), v_5 = (.agg [(pI x21a), (pB x21b), (pS x21c), (.list 6 x21df x21d), (.list 6 x21ef x21e), (pB x21f), (.list 7 x21gf x21g)]) ∧
      ∃ (x22a : Int), ∃ (x22b : Bool), ∃ (x22c : ByteArray), ∃ (x22d : Option Addr) (x22dn x22dc : Nat), ∃ (x22e : Option Addr) (x22en x22ec : Nat), ∃ (x22f : Bool), ∃ (x22g : Option Addr) (x22gn x22gc : Nat), rdM u_7 b4 0 7 = some [(pI x22a), (pB x22b), (pS x22c), (.raw (.slice x22d x22dn x22dc)), (.raw (.slice x22e x22en x22ec)), (pB x22f), (.raw (.slice x22g x22gn x22gc))] ∧
      CallP Try.prog 13 [(.agg [(pI x22a), (pB x22b), (pS x22c), (.raw (.slice x22d x22dn x22dc)), (.raw (.slice x22e x22en x22ec)), (pB x22f), (.raw (.slice x22g x22gn x22gc))]), (.agg [(pI x21a), (pB x21b), (pS x21c), (.list 6 .sh x21d), (.list 6 .sh x21e), (pB x21f), (.list 7 .sh x21g)])] u_7 fun v_6 u_8 =>
      ∃ (x24 : Bool), v_6 = (pB x24) ∧
      CIf (!x24)
      (R (pB false) u_8)
      (CallP Try.prog 14 [(pP b4 0)] u_8 fun v_7 u_9 =>
         v_7 = (.tup []) ∧
        CallQ Try.prog 13 [(.agg [(pI x17a), (pB x17b), (pS x17c), (.list 6 .sh x17d), (.list 6 .sh x17e), (pB x17f), (.list 7 .sh x17g)]), (.agg [(pI a0a), (pB a0b), (pS a0c), (.list 6 .sh a0d), (.list 6 .sh a0e), (pB a0f), (.list 7 .sh a0g)])] u_9 fun v_8 u_10 =>
        ∃ (x29 : Bool), v_8 = (pB x29) ∧
        CIf x29
        (CallQ Try.prog 11 [(.agg [(pI x17a), (pB x17b), (pS x17c), (.list 6 .sh x17d), (.list 6 .sh x17e), (pB x17f), (.list 7 .sh x17g)])] (Mem.or u_9 u_10) fun v_9 u_11 =>
          ∃ (x32a : Int), ∃ (x32b : Bool), ∃ (x32c : ByteArray), ∃ (x32df : Fl) (x32d : List (List PV)), ∃ (x32ef : Fl) (x32e : List (List PV)), ∃ (x32f : Bool), ∃ (x32gf : Fl) (x32g : List (List PV)), v_9 = (.agg [(pI x32a), (pB x32b), (pS x32c), (.list 6 x32df x32d), (.list 6 x32ef x32e), (pB x32f), (.list 7 x32gf x32g)]) ∧
          CallP Try.prog 13 [(.agg [(pI x32a), (pB x32b), (pS x32c), (.list 6 .sh x32d), (.list 6 .sh x32e), (pB x32f), (.list 7 .sh x32g)]), (.agg [(pI x21a), (pB x21b), (pS x21c), (.list 6 .sh x21d), (.list 6 .sh x21e), (pB x21f), (.list 7 .sh x21g)])] (Mem.or (Mem.or u_9 u_10) u_11) fun v_10 u_12 =>
          ∃ (x34 : Bool), v_10 = (pB x34) ∧
          CIf x34
          (CallP Try.prog 9 [] u_12 fun v_11 u_13 =>
            ∃ (x37 : Bool), v_11 = (pB x37) ∧
            R (pB x37) u_13)
          (R (pB false) u_12))
        (R (pB false) (Mem.or u_9 u_10)))))

theorem G_ponderlaw12_AlphaBare.ok (a0a : Int) (a0b : Bool) (a0c : ByteArray) (a0df : Fl) (a0d : List (List PV)) (a0ef : Fl) (a0e : List (List PV)) (a0f : Bool) (a0gf : Fl) (a0g : List (List PV)) (u0 : Mem) (R : PV → Mem → Prop) : G_ponderlaw12_AlphaBare.sh a0a a0b a0c a0df a0d a0ef a0e a0f a0gf a0g u0 R = VF ⟨Try.prog, 39, [1, 3, 5], [], [(2, ⟨[(14, .one (.raw .bool))], []⟩)], [], [], [], [4, 19, 22]⟩ ((Try.f3.body).getD .skip) [.tmp 2] [(.agg [(pI a0a), (pB a0b), (pS a0c), (.list 6 a0df a0d), (.list 6 a0ef a0e), (pB a0f), (.list 7 a0gf a0g)])] u0 R := by kernel_rfl

theorem G_ponderlaw12_AlphaBare.c {a0a : Int} {a0b : Bool} {a0c : ByteArray} {a0df : Fl} {a0d : List (List PV)} {a0ef : Fl} {a0e : List (List PV)} {a0f : Bool} {a0gf : Fl} {a0g : List (List PV)} {u0 : Mem} {K : PV → Mem → Prop} (h : G_ponderlaw12_AlphaBare.sh a0a a0b a0c a0df a0d a0ef a0e a0f a0gf a0g u0 K) : CallP Try.prog 3 [(.agg [(pI a0a), (pB a0b), (pS a0c), (.list 6 a0df a0d), (.list 6 a0ef a0e), (pB a0f), (.list 7 a0gf a0g)])] u0 K :=
  VF_sound (E := ⟨Try.prog, 39, [1, 3, 5], [], [(2, ⟨[(14, .one (.raw .bool))], []⟩)], [], [], [], [4, 19, 22]⟩) (rs := [.tmp 2]) Try.func3 rfl rfl rfl (by kernel_rfl) (by kernel_rfl) (G_ponderlaw12_AlphaBare.ok a0a a0b a0c a0df a0d a0ef a0e a0f a0gf a0g u0 K ▸ h)


/-- ponder/ponderlaw12.AlphaUsers -/
def G_ponderlaw12_AlphaUsers.sh (a0a : Int) (a0b : Bool) (a0c : ByteArray) (a0df : Fl) (a0d : List (List PV)) (a0ef : Fl) (a0e : List (List PV)) (a0f : Bool) (a0gf : Fl) (a0g : List (List PV)) (a1a : Int) (a1b : Bool) (a1c : ByteArray) (a1df : Fl) (a1d : List (List PV)) (a1ef : Fl) (a1e : List (List PV)) (a1f : Bool) (a1gf : Fl) (a1g : List (List PV)) (a2 : Int) (u0 : Mem) (R : PV → Mem → Prop) : Prop :=
  CJoin (α := Bool) (fun J =>
    CallP Try.prog 7 [(.list 7 .nr [[(pI a0a), (pB a0b), (pS a0c), (.list 6 .sh a0d), (.list 6 .sh a0e), (pB a0f), (.list 7 .sh a0g)], [(pI a1a), (pB a1b), (pS a1c), (.list 6 .sh a1d), (.list 6 .sh a1e), (pB a1f), (.list 7 .sh a1g)]]), (pI (20)), (pI (0))] u0 fun v u_1 =>
    ∃ (x14 : Int), v = (pI x14) ∧
    CIf (decide ((x14 : Int) > (20)))
    (J true u_1)
    (CallP Try.prog 8 [(.list 7 .nr [[(pI a0a), (pB a0b), (pS a0c), (.list 6 .sh a0d), (.list 6 .sh a0e), (pB a0f), (.list 7 .sh a0g)], [(pI a1a), (pB a1b), (pS a1c), (.list 6 .sh a1d), (.list 6 .sh a1e), (pB a1f), (.list 7 .sh a1g)]])] u_1 fun v_1 u_2 =>
      ∃ (x20 : Bool), v_1 = (pB x20) ∧
      J x20 u_2))
  (fun s u =>
    CIf s
    (CallP Try.prog 9 [] u fun v_2 u_3 =>
      ∃ (x22 : Bool), v_2 = (pB x22) ∧
      R (pB x22) u_3)
    (CallP Try.prog 15 [] u fun v_3 u_4 =>
      ∃ (x23 : Option Addr), v_3 = (.raw (.pointer x23)) ∧
      CIf (Option.isNone x23)
      (R (pB false) u_4)
      (CallP Try.prog 16 [(pI a2), (pI (9))] u_4 fun v_4 u_5 =>
        ∃ (x27 : Int), v_4 = (pI x27) ∧
        LoopI (α := Int) (fun next s_1 u_6 =>
          CIf (decide ((s_1 : Int) < (IntKind.wrap .i64 ((1) + x27))))
          (CallP Try.prog 17 [(.raw (.pointer x23)), (.agg [(pI a0a), (pB a0b), (pS a0c), (.list 6 .sh a0d), (.list 6 .sh a0e), (pB a0f), (.list 7 .sh a0g)])] u_6 fun v_5 u_7 =>
            ∃ (x36 : Int), v_5 = (pI x36) ∧
            CIf ((x36 : Int) != (0))
            (R (pB false) u_7)
            (CallP Try.prog 18 [(.raw (.pointer x23)), (pI (0))] u_7 fun v_6 u_8 =>
              ∃ (x40 : Int), v_6 = (pI x40) ∧
              CIf ((x40 : Int) != (IntKind.wrap .i64 (s_1 + (1))))
              (R (pB false) u_8)
              (next (IntKind.wrap .i64 (s_1 + (1))) u_8)))
          (CallP Try.prog 17 [(.raw (.pointer x23)), (.agg [(pI a1a), (pB a1b), (pS a1c), (.list 6 .sh a1d), (.list 6 .sh a1e), (pB a1f), (.list 7 .sh a1g)])] u_6 fun v_7 u_9 =>
            ∃ (x47 : Int), v_7 = (pI x47) ∧
            CallQ Try.prog 11 [(.agg [(pI a0a), (pB a0b), (pS a0c), (.list 6 .sh a0d), (.list 6 .sh a0e), (pB a0f), (.list 7 .sh a0g)])] u_9 fun v_8 u_10 =>
            ∃ (x51a : Int), ∃ (x51b : Bool), ∃ (x51c : ByteArray), ∃ (x51df : Fl) (x51d : List (List PV)), ∃ (x51ef : Fl) (x51e : List (List PV)), ∃ (x51f : Bool), ∃ (x51gf : Fl) (x51g : List (List PV)), v_8 = (.agg [(pI x51a), (pB x51b), (pS x51c), (.list 6 x51df x51d), (.list 6 x51ef x51e), (pB x51f), (.list 7 x51gf x51g)]) ∧
            CallP Try.prog 11 [(.agg [(pI a1a), (pB a1b), (pS a1c), (.list 6 .sh a1d), (.list 6 .sh a1e), (pB a1f), (.list 7 .sh a1g)])] (Mem.or u_9 u_10) fun v_9 u_11 =>
            ∃ (x53a : Int), ∃ (x53b : Bool), ∃ (x53c : ByteArray), ∃ (x53df : Fl) (x53d : List (List PV)), ∃ (x53ef : Fl) (x53e : List (List PV)), ∃ (x53f : Bool), ∃ (x53gf : Fl) (x53g : List (List PV)), v_9 = (.agg [(pI x53a), (pB x53b), (pS x53c), (.list 6 x53df x53d), (.list 6 x53ef x53e), (pB x53f), (.list 7 x53gf x53g)]) ∧
            CallP Try.prog 13 [(.agg [(pI x51a), (pB x51b), (pS x51c), (.list 6 .sh x51d), (.list 6 .sh x51e), (pB x51f), (.list 7 .sh x51g)]), (.agg [(pI x53a), (pB x53b), (pS x53c), (.list 6 .sh x53d), (.list 6 .sh x53e), (pB x53f), (.list 7 .sh x53g)])] u_11 fun v_10 u_12 =>
            ∃ (x54 : Bool), v_10 = (pB x54) ∧
            CIf (!(((x47 : Int) == (0)) == x54))
            (R (pB false) u_12)
            (CIf (decide ((x47 : Int) > (1)))
              (R (pB false) u_12)
              (LoopI (α := Int) (fun next_1 s_2 u_13 =>
                  CIf (decide ((s_2 : Int) < (IntKind.wrap .i64 ((1) + x27))))
                  (CallP Try.prog 19 [(.raw (.pointer x23)), (pI (0))] u_13 fun v_11 u_14 =>
                    ∃ (x66 : Bool), v_11 = (pB x66) ∧
                    CIf (!x66)
                    (R (pB false) u_14)
                    (next_1 (IntKind.wrap .i64 (s_2 + (1))) u_14))
                  (CIf ((x47 : Int) == (0))
                    (CallP Try.prog 20 [(.raw (.pointer x23))] u_13 fun v_12 u_15 =>
                      ∃ (x71 : Int), v_12 = (pI x71) ∧
                      CIf ((x71 : Int) == (1))
                      (CallP Try.prog 18 [(.raw (.pointer x23)), (pI (0))] u_15 fun v_13 u_16 =>
                        ∃ (x75 : Int), v_13 = (pI x75) ∧
                        CIf ((x75 : Int) == (1))
                        (CallP Try.prog 9 [] u_16 fun v_14 u_17 =>
                        ∃ (x79 : Bool), v_14 = (pB x79) ∧
                        R (pB x79) u_17)
                        (R (pB false) u_16))
                      (R (pB false) u_15))
                    (CallP Try.prog 20 [(.raw (.pointer x23))] u_13 fun v_15 u_18 =>
                      ∃ (x82 : Int), v_15 = (pI x82) ∧
                      CIf ((x82 : Int) == (1))
                      (CallP Try.prog 18 [(.raw (.pointer x23)), (pI (0))] u_18 fun v_16 u_19 =>
                        ∃ (x86 : Int), v_16 = (pI x86) ∧
                        CIf ((x86 : Int) == (0))
                        (CallP Try.prog 19 [(.raw (.pointer x23)), (pI (0))] u_19 fun v_17 u_20 =>
                        ∃ (x91 : Bool), v_17 = (pB x91) ∧
                        CIf (!x91)
                        (CallP Try.prog 17 [(.raw (.pointer x23)), (.agg [(pI a0a), (pB a0b), (pS a0c), (.list 6 .sh a0d), (.list 6 .sh a0e), (pB a0f), (.list 7 .sh a0g)])] u_20 fun v_18 u_21 =>
                        ∃ (x97 : Int), v_18 = (pI x97) ∧
                        CIf ((x97 : Int) == (0))
                        (CallP Try.prog 20 [(.raw (.pointer x23))] u_21 fun v_19 u_22 =>
                        ∃ (x102 : Int), v_19 = (pI x102) ∧
                        CIf ((x102 : Int) == (2))
                        (CallP Try.prog 9 [] u_22 fun v_20 u_23 =>
                        ∃ (x106 : Bool), v_20 = (pB x106) ∧
                        R (pB x106) u_23)
                        (R (pB false) u_22))
                        (R (pB false) u_21))
                        (R (pB false) u_20))
                        (R (pB false) u_19))
                      (R (pB false) u_18))))
                (0) u_12))))
        (0) u_5)))

theorem G_ponderlaw12_AlphaUsers.ok (a0a : Int) (a0b : Bool) (a0c : ByteArray) (a0df : Fl) (a0d : List (List PV)) (a0ef : Fl) (a0e : List (List PV)) (a0f : Bool) (a0gf : Fl) (a0g : List (List PV)) (a1a : Int) (a1b : Bool) (a1c : ByteArray) (a1df : Fl) (a1d : List (List PV)) (a1ef : Fl) (a1e : List (List PV)) (a1f : Bool) (a1gf : Fl) (a1g : List (List PV)) (a2 : Int) (u0 : Mem) (R : PV → Mem → Prop) : G_ponderlaw12_AlphaUsers.sh a0a a0b a0c a0df a0d a0ef a0e a0f a0gf a0g a1a a1b a1c a1df a1d a1ef a1e a1f a1gf a1g a2 u0 R = VF ⟨Try.prog, 108, [3, 4], [(8, ⟨[(8, .one (.raw (.int .i64)))], []⟩), (16, ⟨[(10, .one (.raw (.int .i64)))], []⟩)], [(2, ⟨[(21, .one (.raw .bool))], []⟩)], [], [], [], []⟩ ((Try.f4.body).getD .skip) [.tmp 6] [(.agg [(pI a0a), (pB a0b), (pS a0c), (.list 6 a0df a0d), (.list 6 a0ef a0e), (pB a0f), (.list 7 a0gf a0g)]), (.agg [(pI a1a), (pB a1b), (pS a1c), (.list 6 a1df a1d), (.list 6 a1ef a1e), (pB a1f), (.list 7 a1gf a1g)]), (pI a2)] u0 R := by kernel_rfl

theorem G_ponderlaw12_AlphaUsers.c {a0a : Int} {a0b : Bool} {a0c : ByteArray} {a0df : Fl} {a0d : List (List PV)} {a0ef : Fl} {a0e : List (List PV)} {a0f : Bool} {a0gf : Fl} {a0g : List (List PV)} {a1a : Int} {a1b : Bool} {a1c : ByteArray} {a1df : Fl} {a1d : List (List PV)} {a1ef : Fl} {a1e : List (List PV)} {a1f : Bool} {a1gf : Fl} {a1g : List (List PV)} {a2 : Int} {u0 : Mem} {K : PV → Mem → Prop} (h : G_ponderlaw12_AlphaUsers.sh a0a a0b a0c a0df a0d a0ef a0e a0f a0gf a0g a1a a1b a1c a1df a1d a1ef a1e a1f a1gf a1g a2 u0 K) : CallP Try.prog 4 [(.agg [(pI a0a), (pB a0b), (pS a0c), (.list 6 a0df a0d), (.list 6 a0ef a0e), (pB a0f), (.list 7 a0gf a0g)]), (.agg [(pI a1a), (pB a1b), (pS a1c), (.list 6 a1df a1d), (.list 6 a1ef a1e), (pB a1f), (.list 7 a1gf a1g)]), (pI a2)] u0 K :=
  VF_sound (E := ⟨Try.prog, 108, [3, 4], [(8, ⟨[(8, .one (.raw (.int .i64)))], []⟩), (16, ⟨[(10, .one (.raw (.int .i64)))], []⟩)], [(2, ⟨[(21, .one (.raw .bool))], []⟩)], [], [], [], []⟩) (rs := [.tmp 6]) Try.func4 rfl rfl rfl (by kernel_rfl) (by kernel_rfl) (G_ponderlaw12_AlphaUsers.ok a0a a0b a0c a0df a0d a0ef a0e a0f a0gf a0g a1a a1b a1c a1df a1d a1ef a1e a1f a1gf a1g a2 u0 K ▸ h)


/-- ponder/ponderlaw12.AlphaLate -/
def G_ponderlaw12_AlphaLate.sh (a0a : Int) (a0b : Bool) (a0c : ByteArray) (a0df : Fl) (a0d : List (List PV)) (a0ef : Fl) (a0e : List (List PV)) (a0f : Bool) (a0gf : Fl) (a0g : List (List PV)) (a1f : Fl) (a1 : List (List PV)) (u0 : Mem) (R : PV → Mem → Prop) : Prop :=
  CJoin (α := Bool) (fun J =>
    CallP Try.prog 7 [(.list 7 .nr [[(pI a0a), (pB a0b), (pS a0c), (.list 6 .sh a0d), (.list 6 .sh a0e), (pB a0f), (.list 7 .sh a0g)]]), (pI (20)), (pI (0))] u0 fun v u_1 =>
    ∃ (x16 : Int), v = (pI x16) ∧
    CIf (decide ((x16 : Int) > (20)))
    (J true u_1)
    (CallP Try.prog 8 [(.list 7 .nr [[(pI a0a), (pB a0b), (pS a0c), (.list 6 .sh a0d), (.list 6 .sh a0e), (pB a0f), (.list 7 .sh a0g)]])] u_1 fun v_1 u_2 =>
      ∃ (x21 : Bool), v_1 = (pB x21) ∧
      CIf x21
      (J true u_2)
      (CallP Try.prog 21 [(.list 12 a1f a1), (pI (40))] u_2 fun v_2 u_3 =>
        ∃ (x25 : Bool), v_2 = (pB x25) ∧
        J (!x25) u_3)))
  (fun s u =>
    CIf s
    (CallP Try.prog 9 [] u fun v_3 u_4 =>
      ∃ (x28 : Bool), v_3 = (pB x28) ∧
      R (pB x28) u_4)
    (CallP Try.prog 15 [] u fun v_4 u_5 =>
      ∃ (x29 : Option Addr), v_4 = (.raw (.pointer x29)) ∧
      CallP Try.prog 15 [] u_5 fun v_5 u_6 =>
      ∃ (x30 : Option Addr), v_5 = (.raw (.pointer x30)) ∧
      CIf (Option.isNone x29)
      (R (pB false) u_6)
      (CIf (Option.isNone x30)
        (R (pB false) u_6)
        (CallP Try.prog 17 [(.raw (.pointer x29)), (.agg [(pI a0a), (pB a0b), (pS a0c), (.list 6 .sh a0d), (.list 6 .sh a0e), (pB a0f), (.list 7 .sh a0g)])] u_6 fun v_6 u_7 =>
          ∃ (x39 : Int), v_6 = (pI x39) ∧
          LoopI (α := Int) (fun next s_1 u_8 =>
            CIf (decide ((s_1 : Int) < ((List.length a1 : Nat) : Int)))
            ((0 : Int) ≤ s_1 ∧ ∃ (r50 : List PV), (a1)[Int.toNat s_1]? = some r50 ∧
              ∃ (x51a : Int), ∃ (x51b : ByteArray), ∃ (x51c : Int), ∃ (x51d : Int), ∃ (x51e : ByteArray), ∃ (x51f : Int), ∃ (x51g : Int), ∃ (x51h : ByteArray), ∃ (x51i : Int), ∃ (x51j : Bool), ∃ (x51k : Bool), ∃ (x51l : Int), rowM r50 0 12 = some [(pI x51a), (pS x51b), (pI x51c), (pI x51d), (pS x51e), (pI x51f), (pI x51g), (pS x51h), (pI x51i), (pB x51j), (pB x51k), (pI x51l)] ∧
              CallP Try.prog 22 [(.raw (.pointer x29)), (.agg [(pI x51a), (pS x51b), (pI x51c), (pI x51d), (pS x51e), (pI x51f), (pI x51g), (pS x51h), (pI x51i), (pB x51j), (pB x51k), (pI x51l)])] u_8 fun v_7 u_9 =>
              ∃ (x52pf : Fl) (x52p : List (List PV)), ∃ (x52q : Int), v_7 = (.tup [(.list 1 x52pf x52p), (pI x52q)]) ∧
              (0 : Int) ≤ s_1 ∧ ∃ (r59 : List PV), (a1)[Int.toNat s_1]? = some r59 ∧
              ∃ (x60a : Int), ∃ (x60b : ByteArray), ∃ (x60c : Int), ∃ (x60d : Int), ∃ (x60e : ByteArray), ∃ (x60f : Int), ∃ (x60g : Int), ∃ (x60h : ByteArray), ∃ (x60i : Int), ∃ (x60j : Bool), ∃ (x60k : Bool), ∃ (x60l : Int), rowM r59 0 12 = some [(pI x60a), (pS x60b), (pI x60c), (pI x60d), (pS x60e), (pI x60f), (pI x60g), (pS x60h), (pI x60i), (pB x60j), (pB x60k), (pI x60l)] ∧
              CallP Try.prog 22 [(.raw (.pointer x30)), (.agg [(pI x60a), (pS x60b), (pI x60c), (pI x60d), (pS x60e), (pI x60f), (pI x60g), (pS x60h), (pI x60i), (pB x60j), (pB x60k), (pI x60l)])] u_9 fun v_8 u_10 =>
              ∃ (x61pf : Fl) (x61p : List (List PV)), ∃ (x61q : Int), v_8 = (.tup [(.list 1 x61pf x61p), (pI x61q)]) ∧
              CIf ((x52q : Int) != x61q)
              (R (pB false) u_10)
              (next (IntKind.wrap .i64 (s_1 + (1))) u_10))
            (CallP Try.prog 17 [(.raw (.pointer x30)), (.agg [(pI a0a), (pB a0b), (pS a0c), (.list 6 .sh a0d), (.list 6 .sh a0e), (pB a0f), (.list 7 .sh a0g)])] u_8 fun v_9 u_11 =>
              ∃ (x69 : Int), v_9 = (pI x69) ∧
              CIf ((x39 : Int) == x69)
              (CallP Try.prog 25 [(.raw (.pointer x29)), (pI x39)] u_11 fun v_10 u_12 =>
                ∃ (x76 : Fn) (x76a x76b : List PV), v_10 = (.fn x76 x76a x76b) ∧
                CallP Try.prog 24 [(.fn x76 x76a x76b)] u_12 fun v_11 u_13 =>
                ∃ (x77f : Fl) (x77 : List (List PV)), v_11 = (.list 12 x77f x77) ∧
                CallP Try.prog 25 [(.raw (.pointer x30)), (pI x69)] u_13 fun v_12 u_14 =>
                ∃ (x80 : Fn) (x80a x80b : List PV), v_12 = (.fn x80 x80a x80b) ∧
                CallP Try.prog 24 [(.fn x80 x80a x80b)] u_14 fun v_13 u_15 =>
                ∃ (x81f : Fl) (x81 : List (List PV)), v_13 = (.list 12 x81f x81) ∧
                CallP Try.prog 23 [(.list 12 x77f x77), (.list 12 x81f x81)] u_15 fun v_14 u_16 =>
                ∃ (x82 : Bool), v_14 = (pB x82) ∧
                CIf x82
                (CallP Try.prog 9 [] u_16 fun v_15 u_17 =>
                  ∃ (x85 : Bool), v_15 = (pB x85) ∧
                  R (pB x85) u_17)
                (R (pB false) u_16))
              (R (pB false) u_11)))
          (0) u_7))))

theorem G_ponderlaw12_AlphaLate.ok (a0a : Int) (a0b : Bool) (a0c : ByteArray) (a0df : Fl) (a0d : List (List PV)) (a0ef : Fl) (a0e : List (List PV)) (a0f : Bool) (a0gf : Fl) (a0g : List (List PV)) (a1f : Fl) (a1 : List (List PV)) (u0 : Mem) (R : PV → Mem → Prop) : G_ponderlaw12_AlphaLate.sh a0a a0b a0c a0df a0d a0ef a0e a0f a0gf a0g a1f a1 u0 R = VF ⟨Try.prog, 87, [2], [(8, ⟨[(8, .one (.raw (.int .i64)))], []⟩)], [(2, ⟨[(27, .one (.raw .bool))], []⟩)], [], [], [], []⟩ ((Try.f5.body).getD .skip) [.tmp 4] [(.agg [(pI a0a), (pB a0b), (pS a0c), (.list 6 a0df a0d), (.list 6 a0ef a0e), (pB a0f), (.list 7 a0gf a0g)]), (.list 12 a1f a1)] u0 R := by kernel_rfl

theorem G_ponderlaw12_AlphaLate.c {a0a : Int} {a0b : Bool} {a0c : ByteArray} {a0df : Fl} {a0d : List (List PV)} {a0ef : Fl} {a0e : List (List PV)} {a0f : Bool} {a0gf : Fl} {a0g : List (List PV)} {a1f : Fl} {a1 : List (List PV)} {u0 : Mem} {K : PV → Mem → Prop} (h : G_ponderlaw12_AlphaLate.sh a0a a0b a0c a0df a0d a0ef a0e a0f a0gf a0g a1f a1 u0 K) : CallP Try.prog 5 [(.agg [(pI a0a), (pB a0b), (pS a0c), (.list 6 a0df a0d), (.list 6 a0ef a0e), (pB a0f), (.list 7 a0gf a0g)]), (.list 12 a1f a1)] u0 K :=
  VF_sound (E := ⟨Try.prog, 87, [2], [(8, ⟨[(8, .one (.raw (.int .i64)))], []⟩)], [(2, ⟨[(27, .one (.raw .bool))], []⟩)], [], [], [], []⟩) (rs := [.tmp 4]) Try.func5 rfl rfl rfl (by kernel_rfl) (by kernel_rfl) (G_ponderlaw12_AlphaLate.ok a0a a0b a0c a0df a0d a0ef a0e a0f a0gf a0g a1f a1 u0 K ▸ h)


/-- ponder/ponderlaw12.AlphaBack -/
def G_ponderlaw12_AlphaBack.sh (a0f : Fl) (a0 : List (List PV)) (a1f : Fl) (a1 : List (List PV)) (a2 : Int) (u0 : Mem) (R : PV → Mem → Prop) : Prop :=
  CallP Try.prog 15 [] u0 fun v u =>
  ∃ (x18 : Option Addr), v = (.raw (.pointer x18)) ∧
  CIf (Option.isNone x18)
  (R (pB false) u)
  (CJoin (α := Bool) (fun J =>
      CIf (decide ((((List.length a0 : Nat) : Int) : Int) > (10)))
      (J true u)
      (CallP Try.prog 7 [(.list 7 a0f a0), (pI (30)), (pI (0))] u fun v_1 u_2 =>
        ∃ (x26 : Int), v_1 = (pI x26) ∧
        CIf (decide ((x26 : Int) > (30)))
        (J true u_2)
        (CallP Try.prog 8 [(.list 7 a0f a0)] u_2 fun v_2 u_3 =>
          ∃ (x31 : Bool), v_2 = (pB x31) ∧
          CIf x31
          (J true u_3)
          (CallP Try.prog 21 [(.list 12 a1f a1), (pI (40))] u_3 fun v_3 u_4 =>
            ∃ (x35 : Bool), v_3 = (pB x35) ∧
            J (!x35) u_4))))
    (fun s u_1 =>
      CIf s
      (CallP Try.prog 9 [] u_1 fun v_4 u_5 =>
        ∃ (x38 : Bool), v_4 = (pB x38) ∧
        R (pB x38) u_5)
      (LoopI (α := Int) (fun next s_1 u_6 =>
          CIf (decide ((s_1 : Int) < ((List.length a0 : Nat) : Int)))
          ((0 : Int) ≤ s_1 ∧ ∃ (r48 : List PV), (a0)[Int.toNat s_1]? = some r48 ∧
            ∃ (x49a : Int), ∃ (x49b : Bool), ∃ (x49c : ByteArray), ∃ (x49df : Fl) (x49d : List (List PV)), ∃ (x49ef : Fl) (x49e : List (List PV)), ∃ (x49f : Bool), ∃ (x49gf : Fl) (x49g : List (List PV)), rowM r48 0 7 = some [(pI x49a), (pB x49b), (pS x49c), (.list 6 x49df x49d), (.list 6 x49ef x49e), (pB x49f), (.list 7 x49gf x49g)] ∧
            CallP Try.prog 17 [(.raw (.pointer x18)), (.agg [(pI x49a), (pB x49b), (pS x49c), (.list 6 .sh x49d), (.list 6 .sh x49e), (pB x49f), (.list 7 .sh x49g)])] u_6 fun v_5 u_7 =>
            ∃ (x50 : Int), v_5 = (pI x50) ∧
            next (IntKind.wrap .i64 (s_1 + (1))) u_7)
          (CallP Try.prog 20 [(.raw (.pointer x18))] u_6 fun v_6 u_8 =>
            ∃ (x52 : Int), v_6 = (pI x52) ∧
            LoopI (α := (Fl × List (List PV)) × Int) (fun next_1 s_2 u_9 =>
              CIf (decide ((s_2.2 : Int) < ((List.length a1 : Nat) : Int)))
              ((0 : Int) ≤ s_2.2 ∧ ∃ (r63 : List PV), (a1)[Int.toNat s_2.2]? = some r63 ∧
                ∃ (x64a : Int), ∃ (x64b : ByteArray), ∃ (x64c : Int), ∃ (x64d : Int), ∃ (x64e : ByteArray), ∃ (x64f : Int), ∃ (x64g : Int), ∃ (x64h : ByteArray), ∃ (x64i : Int), ∃ (x64j : Bool), ∃ (x64k : Bool), ∃ (x64l : Int), rowM r63 0 12 = some [(pI x64a), (pS x64b), (pI x64c), (pI x64d), (pS x64e), (pI x64f), (pI x64g), (pS x64h), (pI x64i), (pB x64j), (pB x64k), (pI x64l)] ∧
                CallP Try.prog 22 [(.raw (.pointer x18)), (.agg [(pI x64a), (pS x64b), (pI x64c), (pI x64d), (pS x64e), (pI x64f), (pI x64g), (pS x64h), (pI x64i), (pB x64j), (pB x64k), (pI x64l)])] u_9 fun v_7 u_10 =>
                ∃ (x65pf : Fl) (x65p : List (List PV)), ∃ (x65q : Int), v_7 = (.tup [(.list 1 x65pf x65p), (pI x65q)]) ∧
                CIf ((x65q : Int) == (0))
                ((0 : Int) ≤ s_2.2 ∧ ∃ (r73 : List PV), (a1)[Int.toNat s_2.2]? = some r73 ∧
                  ∃ (x75 : Int), rowM r73 11 1 = some [(pI x75)] ∧
                  appL false 1 8 s_2.1.1 s_2.1.2 [[(pI x75)]] u_10 fun f77 u_11 =>
                  next_1 ((f77, (s_2.1.2 ++ [[(pI x75)]])), (IntKind.wrap .i64 (s_2.2 + (1)))) u_11)
                (next_1 ((s_2.1.1, s_2.1.2), (IntKind.wrap .i64 (s_2.2 + (1)))) u_10))
              (LoopI (α := Int) (fun next_2 s_3 u_12 =>
                  CIf (decide ((s_3 : Int) < ((List.length s_2.1.2 : Nat) : Int)))
                  (CallP Try.prog 16 [(pI a2), (pI ((List.length s_2.1.2 : Nat) : Int))] u_12 fun v_8 u_13 =>
                    ∃ (x91 : Int), v_8 = (pI x91) ∧
                    (((List.length s_2.1.2 : Nat) : Int) : Int) ≠ 0 ∧
                    (0 : Int) ≤ (Int.tmod (IntKind.wrap .i64 (s_3 + x91)) ((List.length s_2.1.2 : Nat) : Int)) ∧ ∃ (r96 : List PV), (s_2.1.2)[Int.toNat (Int.tmod (IntKind.wrap .i64 (s_3 + x91)) ((List.length s_2.1.2 : Nat) : Int))]? = some r96 ∧
                    ∃ (x97 : Int), rowM r96 0 1 = some [(pI x97)] ∧
                    CallP Try.prog 26 [(.raw (.pointer x18)), (pI x97)] u_13 fun v_9 u_14 =>
                    ∃ (x98pf : Fl) (x98p : List (List PV)), ∃ (x98q : Int), v_9 = (.tup [(.list 1 x98pf x98p), (pI x98q)]) ∧
                    CIf ((x98q : Int) != (0))
                    (R (pB false) u_14)
                    (next_2 (IntKind.wrap .i64 (s_3 + (1))) u_14))
                  (LoopI (α := Int) (fun next_3 s_4 u_15 =>
                      CIf (decide ((s_4 : Int) < x52))
                      (CallP Try.prog 25 [(.raw (.pointer x18)), (pI s_4)] u_15 fun v_10 u_16 =>
                        ∃ (x110 : Fn) (x110a x110b : List PV), v_10 = (.fn x110 x110a x110b) ∧
                        CallP Try.prog 24 [(.fn x110 x110a x110b)] u_16 fun v_11 u_17 =>
                        ∃ (x111f : Fl) (x111 : List (List PV)), v_11 = (.list 12 x111f x111) ∧
                        CIf (decide ((((List.length x111 : Nat) : Int) : Int) > (0)))
                        (R (pB false) u_17)
                        (next_3 (IntKind.wrap .i64 (s_4 + (1))) u_17))
                      (CallP Try.prog 20 [(.raw (.pointer x18))] u_15 fun v_12 u_18 =>
                        ∃ (x115 : Int), v_12 = (pI x115) ∧
                        CIf ((x115 : Int) == x52)
                        (CallP Try.prog 9 [] u_18 fun v_13 u_19 =>
                        ∃ (x119 : Bool), v_13 = (pB x119) ∧
                        R (pB x119) u_19)
                        (R (pB false) u_18)))
                    (0) u_12))
                (0) u_9))
            ((.nil, []), (0)) u_8))
        (0) u_1)))

theorem G_ponderlaw12_AlphaBack.ok (a0f : Fl) (a0 : List (List PV)) (a1f : Fl) (a1 : List (List PV)) (a2 : Int) (u0 : Mem) (R : PV → Mem → Prop) : G_ponderlaw12_AlphaBack.sh a0f a0 a1f a1 a2 u0 R = VF ⟨Try.prog, 121, [], [(7, ⟨[(8, .one (.raw (.int .i64)))], []⟩), (13, ⟨[(10, .one (.list 1)), (11, .one (.raw (.int .i64)))], []⟩), (19, ⟨[(14, .one (.raw (.int .i64)))], []⟩), (25, ⟨[(17, .one (.raw (.int .i64)))], []⟩)], [(5, ⟨[(37, .one (.raw .bool))], []⟩)], [], [], [], []⟩ ((Try.f6.body).getD .skip) [.tmp 6] [(.list 7 a0f a0), (.list 12 a1f a1), (pI a2)] u0 R := by kernel_rfl

theorem G_ponderlaw12_AlphaBack.c {a0f : Fl} {a0 : List (List PV)} {a1f : Fl} {a1 : List (List PV)} {a2 : Int} {u0 : Mem} {K : PV → Mem → Prop} (h : G_ponderlaw12_AlphaBack.sh a0f a0 a1f a1 a2 u0 K) : CallP Try.prog 6 [(.list 7 a0f a0), (.list 12 a1f a1), (pI a2)] u0 K :=
  VF_sound (E := ⟨Try.prog, 121, [], [(7, ⟨[(8, .one (.raw (.int .i64)))], []⟩), (13, ⟨[(10, .one (.list 1)), (11, .one (.raw (.int .i64)))], []⟩), (19, ⟨[(14, .one (.raw (.int .i64)))], []⟩), (25, ⟨[(17, .one (.raw (.int .i64)))], []⟩)], [(5, ⟨[(37, .one (.raw .bool))], []⟩)], [], [], [], []⟩) (rs := [.tmp 6]) Try.func6 rfl rfl rfl (by kernel_rfl) (by kernel_rfl) (G_ponderlaw12_AlphaBack.ok a0f a0 a1f a1 a2 u0 K ▸ h)


/-- ponder/ponderkeep.Size -/
def G_ponderkeep_Size.sh (a0f : Fl) (a0 : List (List PV)) (a1 : Int) (a2 : Int) (u0 : Mem) (R : PV → Mem → Prop) : Prop :=
  CIf (decide ((a2 : Int) > (20)))
  (R (pI (IntKind.wrap .i64 (a1 + (1)))) u0)
  (CJoin (α := Int) (fun J =>
      LoopI (α := Int × Int) (fun next s_1 u_1 =>
        CIf (decide ((s_1.2 : Int) < ((List.length a0 : Nat) : Int)))
        (CIf (decide ((s_1.1 : Int) ≤ a1))
          ((0 : Int) ≤ s_1.2 ∧ ∃ (r27 : List PV), (a0)[Int.toNat s_1.2]? = some r27 ∧
            ∃ (x29f : Fl) (x29 : List (List PV)), rowM r27 6 1 = some [(.list 7 x29f x29)] ∧
            CallP Try.prog 7 [(.list 7 x29f x29), (pI a1), (pI (IntKind.wrap .i64 (a2 + (1))))] u_1 fun v u_2 =>
            ∃ (x33 : Int), v = (pI x33) ∧
            next ((IntKind.wrap .i64 (s_1.1 + (IntKind.wrap .i64 ((1) + x33)))), (IntKind.wrap .i64 (s_1.2 + (1)))) u_2)
          (J s_1.1 u_1))
        (J s_1.1 u_1))
      ((0), (0)) u0)
    (fun s u =>
      R (pI (if (IntKind.wrap .i64 (a1 + (1))) < s then (IntKind.wrap .i64 (a1 + (1))) else s)) u))

theorem G_ponderkeep_Size.ok (a0f : Fl) (a0 : List (List PV)) (a1 : Int) (a2 : Int) (u0 : Mem) (R : PV → Mem → Prop) : G_ponderkeep_Size.sh a0f a0 a1 a2 u0 R = VF ⟨Try.prog, 40, [], [(5, ⟨[(7, .one (.raw (.int .i64))), (8, .one (.raw (.int .i64)))], []⟩)], [(8, ⟨[(7, .one (.raw (.int .i64)))], []⟩)], [], [], [], []⟩ ((Try.f7.body).getD .skip) [.tmp 6] [(.list 7 a0f a0), (pI a1), (pI a2)] u0 R := by kernel_rfl

theorem G_ponderkeep_Size.c {a0f : Fl} {a0 : List (List PV)} {a1 : Int} {a2 : Int} {u0 : Mem} {K : PV → Mem → Prop} (h : G_ponderkeep_Size.sh a0f a0 a1 a2 u0 K) : CallP Try.prog 7 [(.list 7 a0f a0), (pI a1), (pI a2)] u0 K :=
  VF_sound (E := ⟨Try.prog, 40, [], [(5, ⟨[(7, .one (.raw (.int .i64))), (8, .one (.raw (.int .i64)))], []⟩)], [(8, ⟨[(7, .one (.raw (.int .i64)))], []⟩)], [], [], [], []⟩) (rs := [.tmp 6]) Try.func7 rfl rfl rfl (by kernel_rfl) (by kernel_rfl) (G_ponderkeep_Size.ok a0f a0 a1 a2 u0 K ▸ h)


/-- ponder/ponderkeep.HeavyConds -/
def G_ponderkeep_HeavyConds.sh (a0f : Fl) (a0 : List (List PV)) (u0 : Mem) (R : PV → Mem → Prop) : Prop :=
  LoopI (α := Int) (fun next s u =>
    CIf (decide ((s : Int) < ((List.length a0 : Nat) : Int)))
    ((0 : Int) ≤ s ∧ ∃ (r13 : List PV), (a0)[Int.toNat s]? = some r13 ∧
      ∃ (x14a : Int), ∃ (x14b : Bool), ∃ (x14c : ByteArray), ∃ (x14df : Fl) (x14d : List (List PV)), ∃ (x14ef : Fl) (x14e : List (List PV)), ∃ (x14f : Bool), ∃ (x14gf : Fl) (x14g : List (List PV)), rowM r13 0 7 = some [(pI x14a), (pB x14b), (pS x14c), (.list 6 x14df x14d), (.list 6 x14ef x14e), (pB x14f), (.list 7 x14gf x14g)] ∧
      CIf (decide ((((ByteArray.size x14c : Nat) : Int) : Int) > (100)))
      (R (pB true) u)
      (CIf (decide ((((List.length x14d : Nat) : Int) : Int) > (10)))
        (R (pB true) u)
        (CIf (decide ((((List.length x14e : Nat) : Int) : Int) > (10)))
          (R (pB true) u)
          (CallP Try.prog 27 [(.list 6 x14df x14d)] u fun v u_1 =>
            ∃ (x34 : Bool), v = (pB x34) ∧
            CIf x34
            (R (pB true) u_1)
            (CallP Try.prog 27 [(.list 6 x14ef x14e)] u_1 fun v_1 u_2 =>
              ∃ (x39 : Bool), v_1 = (pB x39) ∧
              CIf x39
              (R (pB true) u_2)
              (CallP Try.prog 8 [(.list 7 x14gf x14g)] u_2 fun v_2 u_3 =>
                ∃ (x44 : Bool), v_2 = (pB x44) ∧
                CIf x44
                (R (pB true) u_3)
                (next (IntKind.wrap .i64 (s + (1))) u_3)))))))
    (R (pB false) u))
  (0) u0

theorem G_ponderkeep_HeavyConds.ok (a0f : Fl) (a0 : List (List PV)) (u0 : Mem) (R : PV → Mem → Prop) : G_ponderkeep_HeavyConds.sh a0f a0 u0 R = VF ⟨Try.prog, 46, [4], [(2, ⟨[(3, .one (.raw (.int .i64)))], []⟩)], [], [], [], [], []⟩ ((Try.f8.body).getD .skip) [.tmp 2] [(.list 7 a0f a0)] u0 R := by kernel_rfl

theorem G_ponderkeep_HeavyConds.c {a0f : Fl} {a0 : List (List PV)} {u0 : Mem} {K : PV → Mem → Prop} (h : G_ponderkeep_HeavyConds.sh a0f a0 u0 K) : CallP Try.prog 8 [(.list 7 a0f a0)] u0 K :=
  VF_sound (E := ⟨Try.prog, 46, [4], [(2, ⟨[(3, .one (.raw (.int .i64)))], []⟩)], [], [], [], [], []⟩) (rs := [.tmp 2]) Try.func8 rfl rfl rfl (by kernel_rfl) (by kernel_rfl) (G_ponderkeep_HeavyConds.ok a0f a0 u0 K ▸ h)


/-- ponder/ponderlaw12.wakes -/
def G_ponderlaw12_wakes.sh  (u0 : Mem) (R : PV → Mem → Prop) : Prop :=
  CallP Try.prog 15 [] u0 fun v u =>
  ∃ (x5 : Option Addr), v = (.raw (.pointer x5)) ∧
  CIf (Option.isNone x5)
  (R (pB false) u)
  (CallP Try.prog 28 [(pS ⟨#[120]⟩)] u fun v_1 u_1 =>
    ∃ (x8a : Int), ∃ (x8b : ByteArray), ∃ (x8c : Int), v_1 = (.agg [(pI x8a), (pS x8b), (pI x8c)]) ∧
    CallP Try.prog 29 [(pI (5))] u_1 fun v_2 u_2 =>
    ∃ (x11a : Int), ∃ (x11b : ByteArray), ∃ (x11c : Int), v_2 = (.agg [(pI x11a), (pS x11b), (pI x11c)]) ∧
    CallP Try.prog 17 [(.raw (.pointer x5)), (.agg [(pI (1)), (pB false), (pS ⟨#[97]⟩), (.list 6 .sh [[(pI (1)), (pS ⟨#[]⟩), (pI x8a), (pS x8b), (pI x8c), (.list 3 .sh [])]]), (.list 6 .sh [[(pI (1)), (pS ⟨#[]⟩), (pI x11a), (pS x11b), (pI x11c), (.list 3 .sh [])]]), (pB false), (.list 7 .sh [])])] u_2 fun v_3 u_3 =>
    ∃ (x17 : Int), v_3 = (pI x17) ∧
    CallP Try.prog 17 [(.raw (.pointer x5)), (.agg [(pI (1)), (pB false), (pS ⟨#[98]⟩), (.list 6 .sh [[(pI (1)), (pS ⟨#[]⟩), (pI x8a), (pS x8b), (pI x8c), (.list 3 .sh [])]]), (.list 6 .sh [[(pI (1)), (pS ⟨#[]⟩), (pI x11a), (pS x11b), (pI x11c), (.list 3 .sh [])]]), (pB false), (.list 7 .sh [])])] u_3 fun v_4 u_4 =>
    ∃ (x21 : Int), v_4 = (pI x21) ∧
    CIf ((x17 : Int) == (0))
    (CIf ((x21 : Int) == (0))
      (CallP Try.prog 20 [(.raw (.pointer x5))] u_4 fun v_5 u_5 =>
        ∃ (x30 : Int), v_5 = (pI x30) ∧
        CIf ((x30 : Int) == (1))
        (CallP Try.prog 18 [(.raw (.pointer x5)), (pI (0))] u_5 fun v_6 u_6 =>
          ∃ (x35 : Int), v_6 = (pI x35) ∧
          R (pB ((x35 : Int) == (2))) u_6)
        (R (pB false) u_5))
      (R (pB false) u_4))
    (R (pB false) u_4))

theorem G_ponderlaw12_wakes.ok  (u0 : Mem) (R : PV → Mem → Prop) : G_ponderlaw12_wakes.sh  u0 R = VF ⟨Try.prog, 38, [2], [], [], [], [], [], []⟩ ((Try.f9.body).getD .skip) [.tmp 0] [] u0 R := by kernel_rfl

theorem G_ponderlaw12_wakes.c  {u0 : Mem} {K : PV → Mem → Prop} (h : G_ponderlaw12_wakes.sh  u0 K) : CallP Try.prog 9 [] u0 K :=
  VF_sound (E := ⟨Try.prog, 38, [2], [], [], [], [], [], []⟩) (rs := [.tmp 0]) Try.func9 rfl rfl rfl (by kernel_rfl) (by kernel_rfl) (G_ponderlaw12_wakes.ok  u0 K ▸ h)


/-- ponder/ponderkeep.CopyCond -/
def G_ponderkeep_CopyCond.sh (a0a : Int) (a0b : Bool) (a0c : ByteArray) (a0df : Fl) (a0d : List (List PV)) (a0ef : Fl) (a0e : List (List PV)) (a0f : Bool) (a0gf : Fl) (a0g : List (List PV)) (u0 : Mem) (R : PV → Mem → Prop) : Prop :=
  CallP Try.prog 30 [(.list 6 a0df a0d)] u0 fun v u =>
  ∃ (x5f : Fl) (x5 : List (List PV)), v = (.list 6 x5f x5) ∧
  CallP Try.prog 30 [(.list 6 a0ef a0e)] u fun v_1 u_1 =>
  ∃ (x9f : Fl) (x9 : List (List PV)), v_1 = (.list 6 x9f x9) ∧
  CallP Try.prog 31 [(.list 7 a0gf a0g)] u_1 fun v_2 u_2 =>
  ∃ (x13f : Fl) (x13 : List (List PV)), v_2 = (.list 7 x13f x13) ∧
  R (.agg [(pI a0a), (pB a0b), (pS a0c), (.list 6 x5f x5), (.list 6 x9f x9), (pB a0f), (.list 7 x13f x13)]) u_2

theorem G_ponderkeep_CopyCond.ok (a0a : Int) (a0b : Bool) (a0c : ByteArray) (a0df : Fl) (a0d : List (List PV)) (a0ef : Fl) (a0e : List (List PV)) (a0f : Bool) (a0gf : Fl) (a0g : List (List PV)) (u0 : Mem) (R : PV → Mem → Prop) : G_ponderkeep_CopyCond.sh a0a a0b a0c a0df a0d a0ef a0e a0f a0gf a0g u0 R = VF ⟨Try.prog, 16, [1, 2], [], [], [], [], [], []⟩ ((Try.f10.body).getD .skip) [.cell 2 25] [(.agg [(pI a0a), (pB a0b), (pS a0c), (.list 6 a0df a0d), (.list 6 a0ef a0e), (pB a0f), (.list 7 a0gf a0g)])] u0 R := by kernel_rfl

theorem G_ponderkeep_CopyCond.c {a0a : Int} {a0b : Bool} {a0c : ByteArray} {a0df : Fl} {a0d : List (List PV)} {a0ef : Fl} {a0e : List (List PV)} {a0f : Bool} {a0gf : Fl} {a0g : List (List PV)} {u0 : Mem} {K : PV → Mem → Prop} (h : G_ponderkeep_CopyCond.sh a0a a0b a0c a0df a0d a0ef a0e a0f a0gf a0g u0 K) : CallP Try.prog 10 [(.agg [(pI a0a), (pB a0b), (pS a0c), (.list 6 a0df a0d), (.list 6 a0ef a0e), (pB a0f), (.list 7 a0gf a0g)])] u0 K :=
  VF_sound (E := ⟨Try.prog, 16, [1, 2], [], [], [], [], [], []⟩) (rs := [.cell 2 25]) Try.func10 rfl rfl rfl (by kernel_rfl) (by kernel_rfl) (G_ponderkeep_CopyCond.ok a0a a0b a0c a0df a0d a0ef a0e a0f a0gf a0g u0 K ▸ h)


/-- ponder/ponderkeep.CopyCond -/
def G_ponderkeep_CopyCond_w.sh (a0a : Int) (a0b : Bool) (a0c : ByteArray) (a0df : Fl) (a0d : List (List PV)) (a0ef : Fl) (a0e : List (List PV)) (a0f : Bool) (a0gf : Fl) (a0g : List (List PV)) (u0 : Mem) (R : PV → Mem → Prop) : Prop :=
  CallP Try.prog 30 [(.list 6 a0df a0d)] u0 fun v u =>
  ∃ (x5 : Option Addr) (x5n x5c : Nat), v = (.raw (.slice x5 x5n x5c)) ∧
  CallP Try.prog 30 [(.list 6 a0ef a0e)] u fun v_1 u_1 =>
  ∃ (x9 : Option Addr) (x9n x9c : Nat), v_1 = (.raw (.slice x9 x9n x9c)) ∧
  CallP Try.prog 31 [(.list 7 a0gf a0g)] u_1 fun v_2 u_2 =>
  ∃ (x13 : Option Addr) (x13n x13c : Nat), v_2 = (.raw (.slice x13 x13n x13c)) ∧
  R (.agg [(pI a0a), (pB a0b), (pS a0c), (.raw (.slice x5 x5n x5c)), (.raw (.slice x9 x9n x9c)), (pB a0f), (.raw (.slice x13 x13n x13c))]) u_2

theorem G_ponderkeep_CopyCond_w.ok (a0a : Int) (a0b : Bool) (a0c : ByteArray) (a0df : Fl) (a0d : List (List PV)) (a0ef : Fl) (a0e : List (List PV)) (a0f : Bool) (a0gf : Fl) (a0g : List (List PV)) (u0 : Mem) (R : PV → Mem → Prop) : G_ponderkeep_CopyCond_w.sh a0a a0b a0c a0df a0d a0ef a0e a0f a0gf a0g u0 R = VF ⟨Try.prog, 16, [1, 2], [], [], [], [], [], [2, 5, 9, 13, 14, 15]⟩ ((Try.f10.body).getD .skip) [.cell 2 25] [(.agg [(pI a0a), (pB a0b), (pS a0c), (.list 6 a0df a0d), (.list 6 a0ef a0e), (pB a0f), (.list 7 a0gf a0g)])] u0 R := by kernel_rfl

theorem G_ponderkeep_CopyCond_w.c {a0a : Int} {a0b : Bool} {a0c : ByteArray} {a0df : Fl} {a0d : List (List PV)} {a0ef : Fl} {a0e : List (List PV)} {a0f : Bool} {a0gf : Fl} {a0g : List (List PV)} {u0 : Mem} {K : PV → Mem → Prop} (h : G_ponderkeep_CopyCond_w.sh a0a a0b a0c a0df a0d a0ef a0e a0f a0gf a0g u0 K) : CallP Try.prog 10 [(.agg [(pI a0a), (pB a0b), (pS a0c), (.list 6 a0df a0d), (.list 6 a0ef a0e), (pB a0f), (.list 7 a0gf a0g)])] u0 K :=
  VF_sound (E := ⟨Try.prog, 16, [1, 2], [], [], [], [], [], [2, 5, 9, 13, 14, 15]⟩) (rs := [.cell 2 25]) Try.func10 rfl rfl rfl (by kernel_rfl) (by kernel_rfl) (G_ponderkeep_CopyCond_w.ok a0a a0b a0c a0df a0d a0ef a0e a0f a0gf a0g u0 K ▸ h)


/-- ponder/ponderkeep.CopyCond -/
def G_ponderkeep_CopyCond_s.sh (a0a : Int) (a0b : Bool) (a0c : ByteArray) (a0df : Fl) (a0d : List (List PV)) (a0ef : Fl) (a0e : List (List PV)) (a0f : Bool) (a0gf : Fl) (a0g : List (List PV)) (u0 : Mem) (R : PV → Mem → Prop) : Prop :=
  CallP Try.prog 30 [(.list 6 a0df a0d)] u0 fun v u =>
  ∃ (x5 : Option Addr) (x5n x5c : Nat), v = (.raw (.slice x5 x5n x5c)) ∧
  CallP Try.prog 30 [(.list 6 a0ef a0e)] u fun v_1 u_1 =>
  ∃ (x9 : Option Addr) (x9n x9c : Nat), v_1 = (.raw (.slice x9 x9n x9c)) ∧
  CallP Try.prog 31 [(.list 7 a0gf a0g)] u_1 fun v_2 u_2 =>
  ∃ (x13 : Option Addr) (x13n x13c : Nat), v_2 = (.raw (.slice x13 x13n x13c)) ∧
  R (.agg [(pI a0a), (pB a0b), (pS a0c), (.raw (.slice x5 x5n x5c)), (.raw (.slice x9 x9n x9c)), (pB a0f), (.raw (.slice x13 x13n x13c))]) u_2

theorem G_ponderkeep_CopyCond_s.ok (a0a : Int) (a0b : Bool) (a0c : ByteArray) (a0df : Fl) (a0d : List (List PV)) (a0ef : Fl) (a0e : List (List PV)) (a0f : Bool) (a0gf : Fl) (a0g : List (List PV)) (u0 : Mem) (R : PV → Mem → Prop) : G_ponderkeep_CopyCond_s.sh a0a a0b a0c a0df a0d a0ef a0e a0f a0gf a0g u0 R = VF ⟨Try.prog, 16, [1, 2], [], [], [], [], [], [2, 5, 9, 13, 14, 15]⟩ ((Try.f10.body).getD .skip) [.cell 2 25] [(.agg [(pI a0a), (pB a0b), (pS a0c), (.list 6 a0df a0d), (.list 6 a0ef a0e), (pB a0f), (.list 7 a0gf a0g)])] u0 R := by kernel_rfl

theorem G_ponderkeep_CopyCond_s.c {a0a : Int} {a0b : Bool} {a0c : ByteArray} {a0df : Fl} {a0d : List (List PV)} {a0ef : Fl} {a0e : List (List PV)} {a0f : Bool} {a0gf : Fl} {a0g : List (List PV)} {u0 : Mem} {K : PV → Mem → Prop} (h : G_ponderkeep_CopyCond_s.sh a0a a0b a0c a0df a0d a0ef a0e a0f a0gf a0g u0 K) : CallP Try.prog 10 [(.agg [(pI a0a), (pB a0b), (pS a0c), (.list 6 a0df a0d), (.list 6 a0ef a0e), (pB a0f), (.list 7 a0gf a0g)])] u0 K :=
  VF_sound (E := ⟨Try.prog, 16, [1, 2], [], [], [], [], [], [2, 5, 9, 13, 14, 15]⟩) (rs := [.cell 2 25]) Try.func10 rfl rfl rfl (by kernel_rfl) (by kernel_rfl) (G_ponderkeep_CopyCond_s.ok a0a a0b a0c a0df a0d a0ef a0e a0f a0gf a0g u0 K ▸ h)


/-- ponder/alpha.Bare -/
def G_alpha_Bare.sh (a0a : Int) (a0b : Bool) (a0c : ByteArray) (a0df : Fl) (a0d : List (List PV)) (a0ef : Fl) (a0e : List (List PV)) (a0f : Bool) (a0gf : Fl) (a0g : List (List PV)) (u0 : Mem) (R : PV → Mem → Prop) : Prop :=
  CallQ Try.prog 32 [(.list 6 a0df a0d)] u0 fun v u =>
  ∃ (x9f : Fl) (x9 : List (List PV)), v = (.list 6 x9f x9) ∧
  CallQ Try.prog 32 [(.list 6 a0ef a0e)] (Mem.or u0 u) fun v_1 u_1 =>
  ∃ (x12f : Fl) (x12 : List (List PV)), v_1 = (.list 6 x12f x12) ∧
  R (.agg [(pI (1)), (pB a0b), (pS ⟨#[]⟩), (.list 6 x9f x9), (.list 6 x12f x12), (pB a0f), (.list 7 .nil [])]) (Mem.or (Mem.or u0 u) u_1)

theorem G_alpha_Bare.ok (a0a : Int) (a0b : Bool) (a0c : ByteArray) (a0df : Fl) (a0d : List (List PV)) (a0ef : Fl) (a0e : List (List PV)) (a0f : Bool) (a0gf : Fl) (a0g : List (List PV)) (u0 : Mem) (R : PV → Mem → Prop) : G_alpha_Bare.sh a0a a0b a0c a0df a0d a0ef a0e a0f a0gf a0g u0 R = VF ⟨Try.prog, 14, [1, 2], [], [], [], [], [], []⟩ ((Try.f11.body).getD .skip) [.cell 2 25] [(.agg [(pI a0a), (pB a0b), (pS a0c), (.list 6 a0df a0d), (.list 6 a0ef a0e), (pB a0f), (.list 7 a0gf a0g)])] u0 R := by kernel_rfl

theorem G_alpha_Bare.c {a0a : Int} {a0b : Bool} {a0c : ByteArray} {a0df : Fl} {a0d : List (List PV)} {a0ef : Fl} {a0e : List (List PV)} {a0f : Bool} {a0gf : Fl} {a0g : List (List PV)} {u0 : Mem} {K : PV → Mem → Prop} (h : G_alpha_Bare.sh a0a a0b a0c a0df a0d a0ef a0e a0f a0gf a0g u0 K) : CallP Try.prog 11 [(.agg [(pI a0a), (pB a0b), (pS a0c), (.list 6 a0df a0d), (.list 6 a0ef a0e), (pB a0f), (.list 7 a0gf a0g)])] u0 K :=
  VF_sound (E := ⟨Try.prog, 14, [1, 2], [], [], [], [], [], []⟩) (rs := [.cell 2 25]) Try.func11 rfl rfl rfl (by kernel_rfl) (by kernel_rfl) (G_alpha_Bare.ok a0a a0b a0c a0df a0d a0ef a0e a0f a0gf a0g u0 K ▸ h)


/-- ponder/alpha.Bare -/
def G_alpha_Bare_s.sh (a0a : Int) (a0b : Bool) (a0c : ByteArray) (a0df : Fl) (a0d : List (List PV)) (a0ef : Fl) (a0e : List (List PV)) (a0f : Bool) (a0gf : Fl) (a0g : List (List PV)) (u0 : Mem) (R : PV → Mem → Prop) : Prop :=
  CallQ Try.prog 32 [(.list 6 a0df a0d)] u0 fun v u =>
  ∃ (x9 : Option Addr) (x9n x9c : Nat), v = (.raw (.slice x9 x9n x9c)) ∧
  CallQ Try.prog 32 [(.list 6 a0ef a0e)] (Mem.or u0 u) fun v_1 u_1 =>
  ∃ (x12 : Option Addr) (x12n x12c : Nat), v_1 = (.raw (.slice x12 x12n x12c)) ∧
  R (.agg [(pI (1)), (pB a0b), (pS ⟨#[]⟩), (.raw (.slice x9 x9n x9c)), (.raw (.slice x12 x12n x12c)), (pB a0f), (.list 7 .nil [])]) (Mem.or (Mem.or u0 u) u_1)

theorem G_alpha_Bare_s.ok (a0a : Int) (a0b : Bool) (a0c : ByteArray) (a0df : Fl) (a0d : List (List PV)) (a0ef : Fl) (a0e : List (List PV)) (a0f : Bool) (a0gf : Fl) (a0g : List (List PV)) (u0 : Mem) (R : PV → Mem → Prop) : G_alpha_Bare_s.sh a0a a0b a0c a0df a0d a0ef a0e a0f a0gf a0g u0 R = VF ⟨Try.prog, 14, [1, 2], [], [], [], [], [], [2, 9, 12]⟩ ((Try.f11.body).getD .skip) [.cell 2 25] [(.agg [(pI a0a), (pB a0b), (pS a0c), (.list 6 a0df a0d), (.list 6 a0ef a0e), (pB a0f), (.list 7 a0gf a0g)])] u0 R := by kernel_rfl

theorem G_alpha_Bare_s.c {a0a : Int} {a0b : Bool} {a0c : ByteArray} {a0df : Fl} {a0d : List (List PV)} {a0ef : Fl} {a0e : List (List PV)} {a0f : Bool} {a0gf : Fl} {a0g : List (List PV)} {u0 : Mem} {K : PV → Mem → Prop} (h : G_alpha_Bare_s.sh a0a a0b a0c a0df a0d a0ef a0e a0f a0gf a0g u0 K) : CallP Try.prog 11 [(.agg [(pI a0a), (pB a0b), (pS a0c), (.list 6 a0df a0d), (.list 6 a0ef a0e), (pB a0f), (.list 7 a0gf a0g)])] u0 K :=
  VF_sound (E := ⟨Try.prog, 14, [1, 2], [], [], [], [], [], [2, 9, 12]⟩) (rs := [.cell 2 25]) Try.func11 rfl rfl rfl (by kernel_rfl) (by kernel_rfl) (G_alpha_Bare_s.ok a0a a0b a0c a0df a0d a0ef a0e a0f a0gf a0g u0 K ▸ h)


/-- ponder/ponderref10.Bare -/
def G_ponderref10_Bare.sh (a0a : Int) (a0b : Bool) (a0c : ByteArray) (a0df : Fl) (a0d : List (List PV)) (a0ef : Fl) (a0e : List (List PV)) (a0f : Bool) (a0gf : Fl) (a0g : List (List PV)) (u0 : Mem) (R : PV → Mem → Prop) : Prop :=
  CallQ Try.prog 33 [(.list 6 a0df a0d)] u0 fun v u =>
  ∃ (x9f : Fl) (x9 : List (List PV)), v = (.list 6 x9f x9) ∧
  CallQ Try.prog 33 [(.list 6 a0ef a0e)] (Mem.or u0 u) fun v_1 u_1 =>
  ∃ (x12f : Fl) (x12 : List (List PV)), v_1 = (.list 6 x12f x12) ∧
  R (.agg [(pI (1)), (pB a0b), (pS ⟨#[]⟩), (.list 6 x9f x9), (.list 6 x12f x12), (pB a0f), (.list 7 .nil [])]) (Mem.or (Mem.or u0 u) u_1)

theorem G_ponderref10_Bare.ok (a0a : Int) (a0b : Bool) (a0c : ByteArray) (a0df : Fl) (a0d : List (List PV)) (a0ef : Fl) (a0e : List (List PV)) (a0f : Bool) (a0gf : Fl) (a0g : List (List PV)) (u0 : Mem) (R : PV → Mem → Prop) : G_ponderref10_Bare.sh a0a a0b a0c a0df a0d a0ef a0e a0f a0gf a0g u0 R = VF ⟨Try.prog, 14, [1, 2], [], [], [], [], [], []⟩ ((Try.f12.body).getD .skip) [.cell 2 25] [(.agg [(pI a0a), (pB a0b), (pS a0c), (.list 6 a0df a0d), (.list 6 a0ef a0e), (pB a0f), (.list 7 a0gf a0g)])] u0 R := by kernel_rfl

theorem G_ponderref10_Bare.c {a0a : Int} {a0b : Bool} {a0c : ByteArray} {a0df : Fl} {a0d : List (List PV)} {a0ef : Fl} {a0e : List (List PV)} {a0f : Bool} {a0gf : Fl} {a0g : List (List PV)} {u0 : Mem} {K : PV → Mem → Prop} (h : G_ponderref10_Bare.sh a0a a0b a0c a0df a0d a0ef a0e a0f a0gf a0g u0 K) : CallP Try.prog 12 [(.agg [(pI a0a), (pB a0b), (pS a0c), (.list 6 a0df a0d), (.list 6 a0ef a0e), (pB a0f), (.list 7 a0gf a0g)])] u0 K :=
  VF_sound (E := ⟨Try.prog, 14, [1, 2], [], [], [], [], [], []⟩) (rs := [.cell 2 25]) Try.func12 rfl rfl rfl (by kernel_rfl) (by kernel_rfl) (G_ponderref10_Bare.ok a0a a0b a0c a0df a0d a0ef a0e a0f a0gf a0g u0 K ▸ h)


/-- ponder/ponderkeep.Cond -/
def G_ponderkeep_Cond.sh (a0a : Int) (a0b : Bool) (a0c : ByteArray) (a0df : Fl) (a0d : List (List PV)) (a0ef : Fl) (a0e : List (List PV)) (a0f : Bool) (a0gf : Fl) (a0g : List (List PV)) (a1a : Int) (a1b : Bool) (a1c : ByteArray) (a1df : Fl) (a1d : List (List PV)) (a1ef : Fl) (a1e : List (List PV)) (a1f : Bool) (a1gf : Fl) (a1g : List (List PV)) (u0 : Mem) (R : PV → Mem → Prop) : Prop :=
  CIf ((a0a : Int) == a1a)
  (CIf (a0b == a1b)
    (CIf (strEq a0c a1c)
      (CIf (a0f == a1f)
        (CallP Try.prog 34 [(.list 6 a0df a0d), (.list 6 a1df a1d)] u0 fun v u =>
          ∃ (x36 : Bool), v = (pB x36) ∧
          CIf x36
          (CallP Try.prog 34 [(.list 6 a0ef a0e), (.list 6 a1ef a1e)] u fun v_1 u_1 =>
            ∃ (x43 : Bool), v_1 = (pB x43) ∧
            CIf x43
            (CallP Try.prog 35 [(.list 7 a0gf a0g), (.list 7 a1gf a1g)] u_1 fun v_2 u_2 =>
              ∃ (x50 : Bool), v_2 = (pB x50) ∧
              R (pB x50) u_2)
            (R (pB false) u_1))
          (R (pB false) u))
        (R (pB false) u0))
      (R (pB false) u0))
    (R (pB false) u0))
  (R (pB false) u0)

theorem G_ponderkeep_Cond.ok (a0a : Int) (a0b : Bool) (a0c : ByteArray) (a0df : Fl) (a0d : List (List PV)) (a0ef : Fl) (a0e : List (List PV)) (a0f : Bool) (a0gf : Fl) (a0g : List (List PV)) (a1a : Int) (a1b : Bool) (a1c : ByteArray) (a1df : Fl) (a1d : List (List PV)) (a1ef : Fl) (a1e : List (List PV)) (a1f : Bool) (a1gf : Fl) (a1g : List (List PV)) (u0 : Mem) (R : PV → Mem → Prop) : G_ponderkeep_Cond.sh a0a a0b a0c a0df a0d a0ef a0e a0f a0gf a0g a1a a1b a1c a1df a1d a1ef a1e a1f a1gf a1g u0 R = VF ⟨Try.prog, 52, [2, 3], [], [], [], [], [], []⟩ ((Try.f13.body).getD .skip) [.tmp 4] [(.agg [(pI a0a), (pB a0b), (pS a0c), (.list 6 a0df a0d), (.list 6 a0ef a0e), (pB a0f), (.list 7 a0gf a0g)]), (.agg [(pI a1a), (pB a1b), (pS a1c), (.list 6 a1df a1d), (.list 6 a1ef a1e), (pB a1f), (.list 7 a1gf a1g)])] u0 R := by kernel_rfl

theorem G_ponderkeep_Cond.c {a0a : Int} {a0b : Bool} {a0c : ByteArray} {a0df : Fl} {a0d : List (List PV)} {a0ef : Fl} {a0e : List (List PV)} {a0f : Bool} {a0gf : Fl} {a0g : List (List PV)} {a1a : Int} {a1b : Bool} {a1c : ByteArray} {a1df : Fl} {a1d : List (List PV)} {a1ef : Fl} {a1e : List (List PV)} {a1f : Bool} {a1gf : Fl} {a1g : List (List PV)} {u0 : Mem} {K : PV → Mem → Prop} (h : G_ponderkeep_Cond.sh a0a a0b a0c a0df a0d a0ef a0e a0f a0gf a0g a1a a1b a1c a1df a1d a1ef a1e a1f a1gf a1g u0 K) : CallP Try.prog 13 [(.agg [(pI a0a), (pB a0b), (pS a0c), (.list 6 a0df a0d), (.list 6 a0ef a0e), (pB a0f), (.list 7 a0gf a0g)]), (.agg [(pI a1a), (pB a1b), (pS a1c), (.list 6 a1df a1d), (.list 6 a1ef a1e), (pB a1f), (.list 7 a1gf a1g)])] u0 K :=
  VF_sound (E := ⟨Try.prog, 52, [2, 3], [], [], [], [], [], []⟩) (rs := [.tmp 4]) Try.func13 rfl rfl rfl (by kernel_rfl) (by kernel_rfl) (G_ponderkeep_Cond.ok a0a a0b a0c a0df a0d a0ef a0e a0f a0gf a0g a1a a1b a1c a1df a1d a1ef a1e a1f a1gf a1g u0 K ▸ h)


/-- ponder/ponderkeep.SpoilCond -/
def G_ponderkeep_SpoilCond.sh (a0 : Option Addr) (u0 : Mem) (R : PV → Mem → Prop) : Prop :=
  LoopI (α := Int) (fun next s u =>
    nn a0
    (withPtrP (.raw (.pointer a0)) fun b o =>
      ∃ (x11 : Option Addr) (x11n x11c : Nat), rdM u b (o + 3) 1 = some [(.raw (.slice x11 x11n x11c))] ∧
      CIf (decide ((s : Int) < ((x11n : Nat) : Int)))
      (LoopI (α := Int) (fun next_1 s_1 u_1 =>
          nn a0
          (withPtrP (.raw (.pointer a0)) fun b_1 o_1 =>
            ∃ (x20 : Option Addr) (x20n x20c : Nat), rdM u_1 b_1 (o_1 + 3) 1 = some [(.raw (.slice x20 x20n x20c))] ∧
            withSl x20 fun b_2 o_2 =>
            (0 : Int) ≤ s ∧ s < ((x20n : Nat) : Int) ∧
            ∃ (x24 : Option Addr) (x24n x24c : Nat), rdM u_1 b_2 ((o_2 + Int.toNat s * 6) + 5) 1 = some [(.raw (.slice x24 x24n x24c))] ∧
            CIf (decide ((s_1 : Int) < ((x24n : Nat) : Int)))
            (nn a0
              (withPtrP (.raw (.pointer a0)) fun b_3 o_3 =>
                ∃ (x32 : Option Addr) (x32n x32c : Nat), rdM u_1 b_3 (o_3 + 3) 1 = some [(.raw (.slice x32 x32n x32c))] ∧
                withSl x32 fun b_4 o_4 =>
                (0 : Int) ≤ s ∧ s < ((x32n : Nat) : Int) ∧
                ∃ (x36 : Option Addr) (x36n x36c : Nat), rdM u_1 b_4 ((o_4 + Int.toNat s * 6) + 5) 1 = some [(.raw (.slice x36 x36n x36c))] ∧
                withSl x36 fun b_5 o_5 =>
                (0 : Int) ≤ s_1 ∧ s_1 < ((x36n : Nat) : Int) ∧
                stM b_5 (o_5 + Int.toNat s_1 * 3) [(pI (0)), (pS ⟨#[]⟩), (pI (0))] u_1 fun u_2 =>
                next_1 (IntKind.wrap .i64 (s_1 + (1))) u_2))
            (nn a0
              (withPtrP (.raw (.pointer a0)) fun b_6 o_6 =>
                ∃ (x43 : Option Addr) (x43n x43c : Nat), rdM u_1 b_6 (o_6 + 3) 1 = some [(.raw (.slice x43 x43n x43c))] ∧
                withSl x43 fun b_7 o_7 =>
                (0 : Int) ≤ s ∧ s < ((x43n : Nat) : Int) ∧
                stM b_7 (o_7 + Int.toNat s * 6) [(pI (-1)), (pS ⟨#[]⟩), (pI (0)), (pS ⟨#[]⟩), (pI (0)), (.list 3 .nil [])] u_1 fun u_3 =>
                next (IntKind.wrap .i64 (s + (1))) u_3))))
        (0) u)
      (LoopI (α := Int) (fun next_2 s_2 u_4 =>
          nn a0
          (withPtrP (.raw (.pointer a0)) fun b_8 o_8 =>
            ∃ (x51 : Option Addr) (x51n x51c : Nat), rdM u_4 b_8 (o_8 + 4) 1 = some [(.raw (.slice x51 x51n x51c))] ∧
            CIf (decide ((s_2 : Int) < ((x51n : Nat) : Int)))
            (LoopI (α := Int) (fun next_3 s_3 u_5 =>
                nn a0
                (withPtrP (.raw (.pointer a0)) fun b_9 o_9 =>
                  ∃ (x60 : Option Addr) (x60n x60c : Nat), rdM u_5 b_9 (o_9 + 4) 1 = some [(.raw (.slice x60 x60n x60c))] ∧
                  withSl x60 fun b_10 o_10 =>
                  (0 : Int) ≤ s_2 ∧ s_2 < ((x60n : Nat) : Int) ∧
                  ∃ (x64 : Option Addr) (x64n x64c : Nat), rdM u_5 b_10 ((o_10 + Int.toNat s_2 * 6) + 5) 1 = some [(.raw (.slice x64 x64n x64c))] ∧
                  CIf (decide ((s_3 : Int) < ((x64n : Nat) : Int)))
                  (nn a0
                    (withPtrP (.raw (.pointer a0)) fun b_11 o_11 =>
                      ∃ (x72 : Option Addr) (x72n x72c : Nat), rdM u_5 b_11 (o_11 + 4) 1 = some [(.raw (.slice x72 x72n x72c))] ∧
                      withSl x72 fun b_12 o_12 =>
                      (0 : Int) ≤ s_2 ∧ s_2 < ((x72n : Nat) : Int) ∧
                      ∃ (x76 : Option Addr) (x76n x76c : Nat), rdM u_5 b_12 ((o_12 + Int.toNat s_2 * 6) + 5) 1 = some [(.raw (.slice x76 x76n x76c))] ∧
                      withSl x76 fun b_13 o_13 =>
                      (0 : Int) ≤ s_3 ∧ s_3 < ((x76n : Nat) : Int) ∧
                      stM b_13 (o_13 + Int.toNat s_3 * 3) [(pI (0)), (pS ⟨#[]⟩), (pI (0))] u_5 fun u_6 =>
                      next_3 (IntKind.wrap .i64 (s_3 + (1))) u_6))
                  (nn a0
                    (withPtrP (.raw (.pointer a0)) fun b_14 o_14 =>
                      ∃ (x83 : Option Addr) (x83n x83c : Nat), rdM u_5 b_14 (o_14 + 4) 1 = some [(.raw (.slice x83 x83n x83c))] ∧
                      withSl x83 fun b_15 o_15 =>
                      (0 : Int) ≤ s_2 ∧ s_2 < ((x83n : Nat) : Int) ∧
                      stM b_15 (o_15 + Int.toNat s_2 * 6) [(pI (-1)), (pS ⟨#[]⟩), (pI (0)), (pS ⟨#[]⟩), (pI (0)), (.list 3 .nil [])] u_5 fun u_7 =>
                      next_2 (IntKind.wrap .i64 (s_2 + (1))) u_7))))
              (0) u_4)
            (LoopI (α := Int) (fun next_4 s_4 u_8 =>
                nn a0
                (withPtrP (.raw (.pointer a0)) fun b_16 o_16 =>
                  ∃ (x91 : Option Addr) (x91n x91c : Nat), rdM u_8 b_16 (o_16 + 6) 1 = some [(.raw (.slice x91 x91n x91c))] ∧
                  CIf (decide ((s_4 : Int) < ((x91n : Nat) : Int)))
                  (nn a0
                    (withPtrP (.raw (.pointer a0)) fun b_17 o_17 =>
                      ∃ (x99 : Option Addr) (x99n x99c : Nat), rdM u_8 b_17 (o_17 + 6) 1 = some [(.raw (.slice x99 x99n x99c))] ∧
                      withSl x99 fun b_18 o_18 =>
                      (0 : Int) ≤ s_4 ∧ s_4 < ((x99n : Nat) : Int) ∧
                      CallP Try.prog 14 [(pP b_18 (o_18 + Int.toNat s_4 * 7))] u_8 fun v u_9 =>
                       v = (.tup []) ∧
                      next_4 (IntKind.wrap .i64 (s_4 + (1))) u_9))
                  (nn a0
                    (withPtrP (.raw (.pointer a0)) fun b_19 o_19 =>
                      stM b_19 (o_19 + 2) [(pS ⟨#[103, 111, 110, 101]⟩)] u_8 fun u_10 =>
                      R (.tup []) u_10))))
              (0) u_4)))
        (0) u)))
  (0) u0

theorem G_ponderkeep_SpoilCond.ok (a0 : Option Addr) (u0 : Mem) (R : PV → Mem → Prop) : G_ponderkeep_SpoilCond.sh a0 u0 R = VF ⟨Try.prog, 106, [], [(1, ⟨[(2, .one (.raw (.int .i64)))], []⟩), (4, ⟨[(3, .one (.raw (.int .i64)))], []⟩), (9, ⟨[(4, .one (.raw (.int .i64)))], []⟩), (12, ⟨[(5, .one (.raw (.int .i64)))], []⟩), (17, ⟨[(6, .one (.raw (.int .i64)))], []⟩)], [], [], [], [], [0, 1, 2, 3, 4, 5, 6, 7, 8, 9, 10, 11, 12, 13, 14, 15, 16, 17, 18, 19, 20, 21, 22, 23, 24, 25, 26, 27, 28, 29, 30, 31, 32, 33, 34, 35, 36, 37, 38, 39, 40, 41, 42, 43, 44, 45, 46, 47, 48, 49, 50, 51, 52, 53, 54, 55, 56, 57, 58, 59, 60, 61, 62, 63, 64, 65, 66, 67, 68, 69, 70, 71, 72, 73, 74, 75, 76, 77, 78, 79, 80, 81, 82, 83, 84, 85, 86, 87, 88, 89, 90, 91, 92, 93, 94, 95, 96, 97, 98, 99, 100, 101, 102, 103, 104, 105]⟩ ((Try.f14.body).getD .skip) [] [(.raw (.pointer a0))] u0 R := by kernel_rfl

theorem G_ponderkeep_SpoilCond.c {a0 : Option Addr} {u0 : Mem} {K : PV → Mem → Prop} (h : G_ponderkeep_SpoilCond.sh a0 u0 K) : CallP Try.prog 14 [(.raw (.pointer a0))] u0 K :=
  VF_sound (E := ⟨Try.prog, 106, [], [(1, ⟨[(2, .one (.raw (.int .i64)))], []⟩), (4, ⟨[(3, .one (.raw (.int .i64)))], []⟩), (9, ⟨[(4, .one (.raw (.int .i64)))], []⟩), (12, ⟨[(5, .one (.raw (.int .i64)))], []⟩), (17, ⟨[(6, .one (.raw (.int .i64)))], []⟩)], [], [], [], [], [0, 1, 2, 3, 4, 5, 6, 7, 8, 9, 10, 11, 12, 13, 14, 15, 16, 17, 18, 19, 20, 21, 22, 23, 24, 25, 26, 27, 28, 29, 30, 31, 32, 33, 34, 35, 36, 37, 38, 39, 40, 41, 42, 43, 44, 45, 46, 47, 48, 49, 50, 51, 52, 53, 54, 55, 56, 57, 58, 59, 60, 61, 62, 63, 64, 65, 66, 67, 68, 69, 70, 71, 72, 73, 74, 75, 76, 77, 78, 79, 80, 81, 82, 83, 84, 85, 86, 87, 88, 89, 90, 91, 92, 93, 94, 95, 96, 97, 98, 99, 100, 101, 102, 103, 104, 105]⟩) (rs := []) Try.func14 rfl rfl rfl (by kernel_rfl) (by kernel_rfl) (G_ponderkeep_SpoilCond.ok a0 u0 K ▸ h)


/-- ponder/alpha.New -/
def G_alpha_New.sh  (u0 : Mem) (R : PV → Mem → Prop) : Prop :=
  CallP Try.prog 36 [] u0 fun v u =>
  ∃ (x1 : Option Addr), v = (.raw (.pointer x1)) ∧
  CallP Try.prog 37 [] u fun v_1 u_1 =>
  ∃ (x2 : Option Addr), v_1 = (.raw (.pointer x2)) ∧
  ∀ (b4 : Nat), u_1 b4 = none →
  R (pP b4 0) (Mem.set u_1 b4 (some (.cells 79 [(.raw (.pointer x1)), (.raw (.pointer x2))])))

theorem G_alpha_New.ok  (u0 : Mem) (R : PV → Mem → Prop) : G_alpha_New.sh  u0 R = VF ⟨Try.prog, 5, [], [], [], [], [], [], []⟩ ((Try.f15.body).getD .skip) [.tmp 0] [] u0 R := by kernel_rfl

theorem G_alpha_New.c  {u0 : Mem} {K : PV → Mem → Prop} (h : G_alpha_New.sh  u0 K) : CallP Try.prog 15 [] u0 K :=
  VF_sound (E := ⟨Try.prog, 5, [], [], [], [], [], [], []⟩) (rs := [.tmp 0]) Try.func15 rfl rfl rfl (by kernel_rfl) (by kernel_rfl) (G_alpha_New.ok  u0 K ▸ h)


/-- ponder/ponderkeep.Within -/
def G_ponderkeep_Within.sh (a0 : Int) (a1 : Int) (u0 : Mem) (R : PV → Mem → Prop) : Prop :=
  CIf (decide ((a1 : Int) < (1)))
  (R (pI (0)) u0)
  ((a1 : Int) ≠ 0 ∧
    CIf (decide (((Int.tmod a0 a1) : Int) < (0)))
    (R (pI (IntKind.wrap .i64 ((Int.tmod a0 a1) + a1))) u0)
    (R (pI (Int.tmod a0 a1)) u0))

theorem G_ponderkeep_Within.ok (a0 : Int) (a1 : Int) (u0 : Mem) (R : PV → Mem → Prop) : G_ponderkeep_Within.sh a0 a1 u0 R = VF ⟨Try.prog, 17, [], [], [], [], [], [], []⟩ ((Try.f16.body).getD .skip) [.tmp 4] [(pI a0), (pI a1)] u0 R := by kernel_rfl

theorem G_ponderkeep_Within.c {a0 : Int} {a1 : Int} {u0 : Mem} {K : PV → Mem → Prop} (h : G_ponderkeep_Within.sh a0 a1 u0 K) : CallP Try.prog 16 [(pI a0), (pI a1)] u0 K :=
  VF_sound (E := ⟨Try.prog, 17, [], [], [], [], [], [], []⟩) (rs := [.tmp 4]) Try.func16 rfl rfl rfl (by kernel_rfl) (by kernel_rfl) (G_ponderkeep_Within.ok a0 a1 u0 K ▸ h)


/-- (*ponder/alpha.Net).Want -/
def G_alpha_Net_Want.sh (a0 : Option Addr) (a1a : Int) (a1b : Bool) (a1c : ByteArray) (a1df : Fl) (a1d : List (List PV)) (a1ef : Fl) (a1e : List (List PV)) (a1f : Bool) (a1gf : Fl) (a1g : List (List PV)) (u0 : Mem) (R : PV → Mem → Prop) : Prop :=
  ∀ (b2 : Nat), u0 b2 = none →
  ∀ (b3 : Nat), (Mem.set u0 b2 (some (.cells 34 [(.raw (.pointer a0))]))) b3 = none →
  ∀ (b4 : Nat), (Mem.set (Mem.set u0 b2 (some (.cells 34 [(.raw (.pointer a0))]))) b3 (some (.cells 25 [(pI a1a), (pB a1b), (pS a1c), (.list 6 a1df a1d), (.list 6 a1ef a1e), (pB a1f), (.list 7 a1gf a1g)]))) b4 = none →
  ∃ (x11a : Int), ∃ (x11b : Bool), ∃ (x11c : ByteArray), ∃ (x11df : Fl) (x11d : List (List PV)), ∃ (x11ef : Fl) (x11e : List (List PV)), ∃ (x11f : Bool), ∃ (x11gf : Fl) (x11g : List (List PV)), rdM (Mem.set (Mem.set (Mem.set u0 b2 (some (.cells 34 [(.raw (.pointer a0))]))) b3 (some (.cells 25 [(pI a1a), (pB a1b), (pS a1c), (.list 6 a1df a1d), (.list 6 a1ef a1e), (pB a1f), (.list 7 a1gf a1g)]))) b4 (some (.cells 3 [(pI (0))]))) b3 0 7 = some [(pI x11a), (pB x11b), (pS x11c), (.list 6 x11df x11d), (.list 6 x11ef x11e), (pB x11f), (.list 7 x11gf x11g)] ∧
  CallP Try.prog 11 [(.agg [(pI x11a), (pB x11b), (pS x11c), (.list 6 .sh x11d), (.list 6 .sh x11e), (pB x11f), (.list 7 .sh x11g)])] (Mem.set (Mem.set (Mem.set u0 b2 (some (.cells 34 [(.raw (.pointer a0))]))) b3 (some (.cells 25 [(pI a1a), (pB a1b), (pS a1c), (.list 6 a1df a1d), (.list 6 a1ef a1e), (pB a1f), (.list 7 a1gf a1g)]))) b4 (some (.cells 3 [(pI (0))]))) fun v u =>
  ∃ (x12a : Int), ∃ (x12b : Bool), ∃ (x12c : ByteArray), ∃ (x12df : Fl) (x12d : List (List PV)), ∃ (x12ef : Fl) (x12e : List (List PV)), ∃ (x12f : Bool), ∃ (x12gf : Fl) (x12g : List (List PV)), v = (.agg [(pI x12a), (pB x12b), (pS x12c), (.list 6 x12df x12d), (.list 6 x12ef x12e), (pB x12f), (.list 7 x12gf x12g)]) ∧
  stM b3 0 [(pI x12a), (pB x12b), (pS x12c), (.list 6 x12df x12d), (.list 6 x12ef x12e), (pB x12f), (.list 7 x12gf x12g)] u fun u_1 =>
  ∀ (b5 : Nat), u_1 b5 = none →
  stM b5 0 [(pI (0))] (Mem.set u_1 b5 (some (.cells 72 [(pI (0))]))) fun u_2 =>
  ∃ (x13 : Option Addr), rdM u_2 b2 0 1 = some [(.raw (.pointer x13))] ∧
  nn x13
  (withPtrP (.raw (.pointer x13)) fun b o =>
    ∃ (x16 : Option Addr), rdM u_2 b (o + 1) 1 = some [(.raw (.pointer x16))] ∧
    CallP Try.prog 38 [(.raw (.pointer x16))] u_2 fun v_1 u_3 =>
    ∃ (x17 : Fn) (x17a x17b : List PV), v_1 = (.fn x17 x17a x17b) ∧
    RangeP Try.prog (.fn x17 x17a x17b) (fun vs RR u_4 =>
      ∃ (x18 : Int), ∃ (x19a : Int), ∃ (x19b : Bool), ∃ (x19c : ByteArray), ∃ (x19df : Fl) (x19d : List (List PV)), ∃ (x19ef : Fl) (x19e : List (List PV)), ∃ (x19f : Bool), ∃ (x19gf : Fl) (x19g : List (List PV)), ∃ (x19h : Int), ∃ (x19i : Option Addr), vs = [(pI x18), (.agg [(pI x19a), (pB x19b), (pS x19c), (.list 6 x19df x19d), (.list 6 x19ef x19e), (pB x19f), (.list 7 x19gf x19g), (pI x19h), (.raw (.pointer x19i))])] ∧
      CJoin (α := Unit) (fun J =>
        ∃ (x24 : Bool), rdM u_4 b3 1 1 = some [(pB x24)] ∧
        CIf (x19b == x24)
        (∃ (x31 : Bool), rdM u_4 b3 5 1 = some [(pB x31)] ∧
          CIf (x19f == x31)
          (∃ (x39f : Fl) (x39 : List (List PV)), rdM u_4 b3 3 1 = some [(.list 6 x39f x39)] ∧
            CallP Try.prog 39 [(.list 6 x19df x19d), (.list 6 x39f x39)] u_4 fun v_2 u_7 =>
            ∃ (x40 : Bool), v_2 = (pB x40) ∧
            CIf x40
            (∃ (x47f : Fl) (x47 : List (List PV)), rdM u_7 b3 4 1 = some [(.list 6 x47f x47)] ∧
              CallP Try.prog 39 [(.list 6 x19ef x19e), (.list 6 x47f x47)] u_7 fun v_3 u_8 =>
              ∃ (x48 : Bool), v_3 = (pB x48) ∧
              CIf x48
              (∃ (x54 : Option Addr), rdM u_8 b2 0 1 = some [(.raw (.pointer x54))] ∧
                nn x54
                (withPtrP (.raw (.pointer x54)) fun b_1 o_1 =>
                  ∃ (x57 : Option Addr), rdM u_8 b_1 (o_1 + 1) 1 = some [(.raw (.pointer x57))] ∧
                  CallP Try.prog 40 [(.raw (.pointer x57)), (pI x18), (.agg [(pI x19a), (pB x19b), (pS x19c), (.list 6 .sh x19d), (.list 6 .sh x19e), (pB x19f), (.list 7 .sh x19g), (pI (IntKind.wrap .i64 (x19h + (1)))), (.raw (.pointer x19i))])] u_8 fun v_4 u_9 =>
                  ∃ (x60 : Bool), v_4 = (pB x60) ∧
                  stM b4 0 [(pI x18)] u_9 fun u_10 =>
                  RR (some .ret) u_10))
              (J () u_8))
            (J () u_7))
          (J () u_4))
        (J () u_4))
      (fun s u_6 =>
        ∃ (x63 : Int), rdM u_6 b5 0 1 = some [(pI x63)] ∧
        CIf ((x18 : Int) == x63)
        (∃ (x65 : Int), rdM u_6 b5 0 1 = some [(pI x65)] ∧
          stM b5 0 [(pI (IntKind.wrap .i64 (x65 + (1))))] u_6 fun u_11 =>
          RR none u_11)
        (RR none u_6)))
    (fun p u_5 =>
      PK p
      (CJoin (α := Option Addr) (fun J_1 =>
          ∃ (x67a : Int), ∃ (x67b : Bool), ∃ (x67c : ByteArray), ∃ (x67df : Fl) (x67d : List (List PV)), ∃ (x67ef : Fl) (x67e : List (List PV)), ∃ (x67f : Bool), ∃ (x67gf : Fl) (x67g : List (List PV)), rdM u_5 b3 0 7 = some [(pI x67a), (pB x67b), (pS x67c), (.list 6 x67df x67d), (.list 6 x67ef x67e), (pB x67f), (.list 7 x67gf x67g)] ∧
          (CallQ Try.prog 41 [(.list 12 .nil [])] u_5 fun v_5 u_13 =>
            ∃ (x68 : Option Addr), v_5 = (.raw (.pointer x68)) ∧
            ∀ (b8 : Nat), (Mem.or u_5 u_13) b8 = none →
            stM b8 0 [(pI x67a), (pB x67b), (pS x67c), (.list 6 x67df x67d), (.list 6 x67ef x67e), (pB x67f), (.list 7 x67gf x67g), (pI (1)), (.raw (.pointer x68))] (Mem.set (Mem.or u_5 u_13) b8 (some (.cells 77 [(pI (0)), (pB false), (pS ⟨#[]⟩), (.list 6 .nil []), (.list 6 .nil []), (pB false), (.list 7 .nil []), (pI (0)), (.raw (.pointer none))]))) fun u_14 =>
            J_1 (some ⟨b8, 0, none⟩) u_14) ∧
          (∀ (b8_1 : Nat), u_5 b8_1 = none →
            CallQ Try.prog 41 [(.list 12 .nil [])] (Mem.set u_5 b8_1 (some (.cells 77 [(pI (0)), (pB false), (pS ⟨#[]⟩), (.list 6 .nil []), (.list 6 .nil []), (pB false), (.list 7 .nil []), (pI (0)), (.raw (.pointer none))]))) fun v_6 u_15 =>
            ∃ (x68_1 : Option Addr), v_6 = (.raw (.pointer x68_1)) ∧
            stM b8_1 0 [(pI x67a), (pB x67b), (pS x67c), (.list 6 x67df x67d), (.list 6 x67ef x67e), (pB x67f), (.list 7 x67gf x67g), (pI (1)), (.raw (.pointer x68_1))] (Mem.or (Mem.set u_5 b8_1 (some (.cells 77 [(pI (0)), (pB false), (pS ⟨#[]⟩), (.list 6 .nil []), (.list 6 .nil []), (pB false), (.list 7 .nil []), (pI (0)), (.raw (.pointer none))]))) u_15) fun u_16 =>
            J_1 (some ⟨b8_1, 0, none⟩) u_16))
        (fun s_1 u_12 =>
          ∃ (x70 : Option Addr), rdM u_12 b2 0 1 = some [(.raw (.pointer x70))] ∧
          nn x70
          (withPtrP (.raw (.pointer x70)) fun b_2 o_2 =>
            ∃ (x73 : Option Addr), rdM u_12 b_2 o_2 1 = some [(.raw (.pointer x73))] ∧
            CallP Try.prog 42 [(.raw (.pointer x73))] u_12 fun v_7 u_17 =>
            ∃ (x74 : Fn) (x74a x74b : List PV), v_7 = (.fn x74 x74a x74b) ∧
            RangeP Try.prog (.fn x74 x74a x74b) (fun vs_1 RR_1 u_18 =>
              ∃ (x75 : Int), ∃ (x76a : Int), ∃ (x76b : ByteArray), ∃ (x76c : Int), ∃ (x76d : Int), ∃ (x76e : ByteArray), ∃ (x76f : Int), ∃ (x76g : Int), ∃ (x76h : ByteArray), ∃ (x76i : Int), ∃ (x76j : Bool), ∃ (x76k : Bool), ∃ (x76l : Int), vs_1 = [(pI x75), (.agg [(pI x76a), (pS x76b), (pI x76c), (pI x76d), (pS x76e), (pI x76f), (pI x76g), (pS x76h), (pI x76i), (pB x76j), (pB x76k), (pI x76l)])] ∧
              ∃ (x77a : Int), ∃ (x77b : Bool), ∃ (x77c : ByteArray), ∃ (x77df : Fl) (x77d : List (List PV)), ∃ (x77ef : Fl) (x77e : List (List PV)), ∃ (x77f : Bool), ∃ (x77gf : Fl) (x77g : List (List PV)), rdM u_18 b3 0 7 = some [(pI x77a), (pB x77b), (pS x77c), (.list 6 x77df x77d), (.list 6 x77ef x77e), (pB x77f), (.list 7 x77gf x77g)] ∧
              CallP Try.prog 43 [(.agg [(pI x77a), (pB x77b), (pS x77c), (.list 6 .sh x77d), (.list 6 .sh x77e), (pB x77f), (.list 7 .sh x77g)]), (.agg [(pI x76a), (pS x76b), (pI x76c), (pI x76d), (pS x76e), (pI x76f), (pI x76g), (pS x76h), (pI x76i), (pB x76j), (pB x76k), (pI x76l)])] u_18 fun v_8 u_20 =>
              ∃ (x79 : Bool), v_8 = (pB x79) ∧
              CIf x79
              (withPtrP (.raw (.pointer s_1)) fun b_3 o_3 =>
                ∃ (x81 : Option Addr), rdM u_20 b_3 (o_3 + 8) 1 = some [(.raw (.pointer x81))] ∧
                CallP Try.prog 44 [(.raw (.pointer x81)), (.agg [(pI x76a), (pS x76b), (pI x76c), (pI x76d), (pS x76e), (pI x76f), (pI x76g), (pS x76h), (pI x76i), (pB x76j), (pB x76k), (pI x76l)])] u_20 fun v_9 u_21 =>
                ∃ (x83 : Bool), v_9 = (pB x83) ∧
                RR_1 none u_21)
              (RR_1 none u_20))
            (fun p_1 u_19 =>
              PK p_1
              (∃ (x84 : Option Addr), rdM u_19 b2 0 1 = some [(.raw (.pointer x84))] ∧
                nn x84
                (withPtrP (.raw (.pointer x84)) fun b_4 o_4 =>
                  ∃ (x87 : Option Addr), rdM u_19 b_4 (o_4 + 1) 1 = some [(.raw (.pointer x87))] ∧
                  ∃ (x88 : Int), rdM u_19 b5 0 1 = some [(pI x88)] ∧
                  withPtrP (.raw (.pointer s_1)) fun b_5 o_5 =>
                  ∃ (x89a : Int), ∃ (x89b : Bool), ∃ (x89c : ByteArray), ∃ (x89df : Fl) (x89d : List (List PV)), ∃ (x89ef : Fl) (x89e : List (List PV)), ∃ (x89f : Bool), ∃ (x89gf : Fl) (x89g : List (List PV)), ∃ (x89h : Int), ∃ (x89i : Option Addr), rdM u_19 b_5 o_5 9 = some [(pI x89a), (pB x89b), (pS x89c), (.list 6 x89df x89d), (.list 6 x89ef x89e), (pB x89f), (.list 7 x89gf x89g), (pI x89h), (.raw (.pointer x89i))] ∧
                  CallP Try.prog 40 [(.raw (.pointer x87)), (pI x88), (.agg [(pI x89a), (pB x89b), (pS x89c), (.list 6 .sh x89d), (.list 6 .sh x89e), (pB x89f), (.list 7 .sh x89g), (pI x89h), (.raw (.pointer x89i))])] u_19 fun v_10 u_22 =>
                  ∃ (x90 : Bool), v_10 = (pB x90) ∧
                  ∃ (x91 : Int), rdM u_22 b5 0 1 = some [(pI x91)] ∧
                  stM b4 0 [(pI x91)] u_22 fun u_23 =>
                  ∃ (r0 : Int), rdM u_23 b4 0 1 = some [(pI r0)] ∧
                  R (pI r0) u_23))
              (False)
              [])
            u_17)))
      (∃ (r0_1 : Int), rdM u_5 b4 0 1 = some [(pI r0_1)] ∧
        R (pI r0_1) u_5)
      [])
    u_3)

theorem G_alpha_Net_Want.ok (a0 : Option Addr) (a1a : Int) (a1b : Bool) (a1c : ByteArray) (a1df : Fl) (a1d : List (List PV)) (a1ef : Fl) (a1e : List (List PV)) (a1f : Bool) (a1gf : Fl) (a1g : List (List PV)) (u0 : Mem) (R : PV → Mem → Prop) : G_alpha_Net_Want.sh a0 a1a a1b a1c a1df a1d a1ef a1e a1f a1gf a1g u0 R = VF ⟨Try.prog, 92, [7, 10], [], [(10, ⟨[], [(7, 9)]⟩), (13, ⟨[(8, .one (.raw .ptr))], []⟩)], [(18, [72, 77]), (75, [72, 51])], [], [], []⟩ ((Try.f17.body).getD .skip) [.cell 4 3] [(.raw (.pointer a0)), (.agg [(pI a1a), (pB a1b), (pS a1c), (.list 6 a1df a1d), (.list 6 a1ef a1e), (pB a1f), (.list 7 a1gf a1g)])] u0 R := by kernel_rfl

theorem G_alpha_Net_Want.c {a0 : Option Addr} {a1a : Int} {a1b : Bool} {a1c : ByteArray} {a1df : Fl} {a1d : List (List PV)} {a1ef : Fl} {a1e : List (List PV)} {a1f : Bool} {a1gf : Fl} {a1g : List (List PV)} {u0 : Mem} {K : PV → Mem → Prop} (h : G_alpha_Net_Want.sh a0 a1a a1b a1c a1df a1d a1ef a1e a1f a1gf a1g u0 K) : CallP Try.prog 17 [(.raw (.pointer a0)), (.agg [(pI a1a), (pB a1b), (pS a1c), (.list 6 a1df a1d), (.list 6 a1ef a1e), (pB a1f), (.list 7 a1gf a1g)])] u0 K :=
  VF_sound (E := ⟨Try.prog, 92, [7, 10], [], [(10, ⟨[], [(7, 9)]⟩), (13, ⟨[(8, .one (.raw .ptr))], []⟩)], [(18, [72, 77]), (75, [72, 51])], [], [], []⟩) (rs := [.cell 4 3]) Try.func17 rfl rfl rfl (by kernel_rfl) (by kernel_rfl) (G_alpha_Net_Want.ok a0 a1a a1b a1c a1df a1d a1ef a1e a1f a1gf a1g u0 K ▸ h)


/-- (*ponder/alpha.Net).Users -/
def G_alpha_Net_Users.sh (a0 : Option Addr) (a1 : Int) (u0 : Mem) (R : PV → Mem → Prop) : Prop :=
  nn a0
  (withPtrP (.raw (.pointer a0)) fun b o =>
    ∃ (x11 : Option Addr), rdM u0 b (o + 1) 1 = some [(.raw (.pointer x11))] ∧
    CallP Try.prog 45 [(.raw (.pointer x11)), (pI a1)] u0 fun v u =>
    ∃ (x13pa : Int), ∃ (x13pb : Bool), ∃ (x13pc : ByteArray), ∃ (x13pdf : Fl) (x13pd : List (List PV)), ∃ (x13pef : Fl) (x13pe : List (List PV)), ∃ (x13pf : Bool), ∃ (x13pgf : Fl) (x13pg : List (List PV)), ∃ (x13ph : Int), ∃ (x13pi : Option Addr), ∃ (x13q : Bool), v = (.tup [(.agg [(pI x13pa), (pB x13pb), (pS x13pc), (.list 6 x13pdf x13pd), (.list 6 x13pef x13pe), (pB x13pf), (.list 7 x13pgf x13pg), (pI x13ph), (.raw (.pointer x13pi))]), (pB x13q)]) ∧
    R (pI x13ph) u)

theorem G_alpha_Net_Users.ok (a0 : Option Addr) (a1 : Int) (u0 : Mem) (R : PV → Mem → Prop) : G_alpha_Net_Users.sh a0 a1 u0 R = VF ⟨Try.prog, 18, [5], [], [], [], [], [], []⟩ ((Try.f18.body).getD .skip) [.tmp 4] [(.raw (.pointer a0)), (pI a1)] u0 R := by kernel_rfl

theorem G_alpha_Net_Users.c {a0 : Option Addr} {a1 : Int} {u0 : Mem} {K : PV → Mem → Prop} (h : G_alpha_Net_Users.sh a0 a1 u0 K) : CallP Try.prog 18 [(.raw (.pointer a0)), (pI a1)] u0 K :=
  VF_sound (E := ⟨Try.prog, 18, [5], [], [], [], [], [], []⟩) (rs := [.tmp 4]) Try.func18 rfl rfl rfl (by kernel_rfl) (by kernel_rfl) (G_alpha_Net_Users.ok a0 a1 u0 K ▸ h)


/-- (*ponder/alpha.Net).Leave -/
def G_alpha_Net_Leave.sh (a0 : Option Addr) (a1 : Int) (u0 : Mem) (R : PV → Mem → Prop) : Prop :=
  nn a0
  (withPtrP (.raw (.pointer a0)) fun b o =>
    ∃ (x11 : Option Addr), rdM u0 b (o + 1) 1 = some [(.raw (.pointer x11))] ∧
    CallP Try.prog 45 [(.raw (.pointer x11)), (pI a1)] u0 fun v u =>
    ∃ (x13pa : Int), ∃ (x13pb : Bool), ∃ (x13pc : ByteArray), ∃ (x13pdf : Fl) (x13pd : List (List PV)), ∃ (x13pef : Fl) (x13pe : List (List PV)), ∃ (x13pf : Bool), ∃ (x13pgf : Fl) (x13pg : List (List PV)), ∃ (x13ph : Int), ∃ (x13pi : Option Addr), ∃ (x13q : Bool), v = (.tup [(.agg [(pI x13pa), (pB x13pb), (pS x13pc), (.list 6 x13pdf x13pd), (.list 6 x13pef x13pe), (pB x13pf), (.list 7 x13pgf x13pg), (pI x13ph), (.raw (.pointer x13pi))]), (pB x13q)]) ∧
    CIf (!x13q)
    (R (pB false) u)
    (CIf (((IntKind.wrap .i64 (x13ph - (1))) : Int) == (0))
      (nn a0
        (withPtrP (.raw (.pointer a0)) fun b_1 o_1 =>
          ∃ (x28 : Option Addr), rdM u b_1 (o_1 + 1) 1 = some [(.raw (.pointer x28))] ∧
          CallP Try.prog 46 [(.raw (.pointer x28)), (pI a1)] u fun v_1 u_1 =>
          ∃ (x30pa : Int), ∃ (x30pb : Bool), ∃ (x30pc : ByteArray), ∃ (x30pdf : Fl) (x30pd : List (List PV)), ∃ (x30pef : Fl) (x30pe : List (List PV)), ∃ (x30pf : Bool), ∃ (x30pgf : Fl) (x30pg : List (List PV)), ∃ (x30ph : Int), ∃ (x30pi : Option Addr), ∃ (x30q : Bool), v_1 = (.tup [(.agg [(pI x30pa), (pB x30pb), (pS x30pc), (.list 6 x30pdf x30pd), (.list 6 x30pef x30pe), (pB x30pf), (.list 7 x30pgf x30pg), (pI x30ph), (.raw (.pointer x30pi))]), (pB x30q)]) ∧
          R (pB true) u_1))
      (nn a0
        (withPtrP (.raw (.pointer a0)) fun b_2 o_2 =>
          ∃ (x34 : Option Addr), rdM u b_2 (o_2 + 1) 1 = some [(.raw (.pointer x34))] ∧
          CallP Try.prog 40 [(.raw (.pointer x34)), (pI a1), (.agg [(pI x13pa), (pB x13pb), (pS x13pc), (.list 6 .sh x13pd), (.list 6 .sh x13pe), (pB x13pf), (.list 7 .sh x13pg), (pI (IntKind.wrap .i64 (x13ph - (1)))), (.raw (.pointer x13pi))])] u fun v_2 u_2 =>
          ∃ (x37 : Bool), v_2 = (pB x37) ∧
          R (pB true) u_2))))

theorem G_alpha_Net_Leave.ok (a0 : Option Addr) (a1 : Int) (u0 : Mem) (R : PV → Mem → Prop) : G_alpha_Net_Leave.sh a0 a1 u0 R = VF ⟨Try.prog, 38, [5], [], [], [], [], [], []⟩ ((Try.f19.body).getD .skip) [.tmp 4] [(.raw (.pointer a0)), (pI a1)] u0 R := by kernel_rfl

theorem G_alpha_Net_Leave.c {a0 : Option Addr} {a1 : Int} {u0 : Mem} {K : PV → Mem → Prop} (h : G_alpha_Net_Leave.sh a0 a1 u0 K) : CallP Try.prog 19 [(.raw (.pointer a0)), (pI a1)] u0 K :=
  VF_sound (E := ⟨Try.prog, 38, [5], [], [], [], [], [], []⟩) (rs := [.tmp 4]) Try.func19 rfl rfl rfl (by kernel_rfl) (by kernel_rfl) (G_alpha_Net_Leave.ok a0 a1 u0 K ▸ h)


/-- (*ponder/alpha.Net).Len -/
def G_alpha_Net_Len.sh (a0 : Option Addr) (u0 : Mem) (R : PV → Mem → Prop) : Prop :=
  nn a0
  (withPtrP (.raw (.pointer a0)) fun b o =>
    ∃ (x6 : Option Addr), rdM u0 b (o + 1) 1 = some [(.raw (.pointer x6))] ∧
    CallP Try.prog 47 [(.raw (.pointer x6))] u0 fun v u =>
    ∃ (x7 : Int), v = (pI x7) ∧
    R (pI x7) u)

theorem G_alpha_Net_Len.ok (a0 : Option Addr) (u0 : Mem) (R : PV → Mem → Prop) : G_alpha_Net_Len.sh a0 u0 R = VF ⟨Try.prog, 8, [], [], [], [], [], [], []⟩ ((Try.f20.body).getD .skip) [.tmp 2] [(.raw (.pointer a0))] u0 R := by kernel_rfl

theorem G_alpha_Net_Len.c {a0 : Option Addr} {u0 : Mem} {K : PV → Mem → Prop} (h : G_alpha_Net_Len.sh a0 u0 K) : CallP Try.prog 20 [(.raw (.pointer a0))] u0 K :=
  VF_sound (E := ⟨Try.prog, 8, [], [], [], [], [], [], []⟩) (rs := [.tmp 2]) Try.func20 rfl rfl rfl (by kernel_rfl) (by kernel_rfl) (G_alpha_Net_Len.ok a0 u0 K ▸ h)


/-- ponder/ponderlaw10.Light -/
def G_ponderlaw10_Light.sh (a0f : Fl) (a0 : List (List PV)) (a1 : Int) (u0 : Mem) (R : PV → Mem → Prop) : Prop :=
  CallP Try.prog 48 [(.list 12 a0f a0), (pI a1)] u0 fun v u =>
  ∃ (x7 : Bool), v = (pB x7) ∧
  R (pB x7) u

theorem G_ponderlaw10_Light.ok (a0f : Fl) (a0 : List (List PV)) (a1 : Int) (u0 : Mem) (R : PV → Mem → Prop) : G_ponderlaw10_Light.sh a0f a0 a1 u0 R = VF ⟨Try.prog, 8, [], [], [], [], [], [], []⟩ ((Try.f21.body).getD .skip) [.tmp 4] [(.list 12 a0f a0), (pI a1)] u0 R := by kernel_rfl

theorem G_ponderlaw10_Light.c {a0f : Fl} {a0 : List (List PV)} {a1 : Int} {u0 : Mem} {K : PV → Mem → Prop} (h : G_ponderlaw10_Light.sh a0f a0 a1 u0 K) : CallP Try.prog 21 [(.list 12 a0f a0), (pI a1)] u0 K :=
  VF_sound (E := ⟨Try.prog, 8, [], [], [], [], [], [], []⟩) (rs := [.tmp 4]) Try.func21 rfl rfl rfl (by kernel_rfl) (by kernel_rfl) (G_ponderlaw10_Light.ok a0f a0 a1 u0 K ▸ h)


/-- (*ponder/alpha.Net).Put -/
def G_alpha_Net_Put.sh (a0 : Option Addr) (a1a : Int) (a1b : ByteArray) (a1c : Int) (a1d : Int) (a1e : ByteArray) (a1f : Int) (a1g : Int) (a1h : ByteArray) (a1i : Int) (a1j : Bool) (a1k : Bool) (a1l : Int) (u0 : Mem) (R : PV → Mem → Prop) : Prop :=
  ∀ (b3 : Nat), u0 b3 = none →
  CJoin (α := (Fl × List (List PV)) × Int) (fun J =>
    nn a0
    (withPtrP (.raw (.pointer a0)) fun b o =>
      ∃ (x15 : Option Addr), rdM (Mem.set u0 b3 (some (.cells 51 [(pI a1a), (pS a1b), (pI a1c), (pI a1d), (pS a1e), (pI a1f), (pI a1g), (pS a1h), (pI a1i), (pB a1j), (pB a1k), (pI a1l)]))) b o 1 = some [(.raw (.pointer x15))] ∧
      ∃ (x17 : Int), rdM (Mem.set u0 b3 (some (.cells 51 [(pI a1a), (pS a1b), (pI a1c), (pI a1d), (pS a1e), (pI a1f), (pI a1g), (pS a1h), (pI a1i), (pB a1j), (pB a1k), (pI a1l)]))) b3 11 1 = some [(pI x17)] ∧
      (CallP Try.prog 49 [(.raw (.pointer x15)), (pI x17)] (Mem.set u0 b3 (some (.cells 51 [(pI a1a), (pS a1b), (pI a1c), (pI a1d), (pS a1e), (pI a1f), (pI a1g), (pS a1h), (pI a1i), (pB a1j), (pB a1k), (pI a1l)]))) fun v u_1 =>
        ∃ (x18pa : Int), ∃ (x18pb : ByteArray), ∃ (x18pc : Int), ∃ (x18pd : Int), ∃ (x18pe : ByteArray), ∃ (x18pf : Int), ∃ (x18pg : Int), ∃ (x18ph : ByteArray), ∃ (x18pi : Int), ∃ (x18pj : Bool), ∃ (x18pk : Bool), ∃ (x18pl : Int), ∃ (x18q : Bool), v = (.tup [(.agg [(pI x18pa), (pS x18pb), (pI x18pc), (pI x18pd), (pS x18pe), (pI x18pf), (pI x18pg), (pS x18ph), (pI x18pi), (pB x18pj), (pB x18pk), (pI x18pl)]), (pB x18q)]) ∧
        ∀ (b6 : Nat), u_1 b6 = none →
        stM b6 0 [(pI x18pa), (pS x18pb), (pI x18pc), (pI x18pd), (pS x18pe), (pI x18pf), (pI x18pg), (pS x18ph), (pI x18pi), (pB x18pj), (pB x18pk), (pI x18pl)] (Mem.set u_1 b6 (some (.cells 51 [(pI (0)), (pS ⟨#[]⟩), (pI (0)), (pI (0)), (pS ⟨#[]⟩), (pI (0)), (pI (0)), (pS ⟨#[]⟩), (pI (0)), (pB false), (pB false), (pI (0))]))) fun u_2 =>
        CIf x18q
        (R (.tup [(.list 1 .nil []), (pI (3))]) u_2)
        (J ((.nil, []), (0)) u_2)) ∧
      (∀ (b6_1 : Nat), (Mem.set u0 b3 (some (.cells 51 [(pI a1a), (pS a1b), (pI a1c), (pI a1d), (pS a1e), (pI a1f), (pI a1g), (pS a1h), (pI a1i), (pB a1j), (pB a1k), (pI a1l)]))) b6_1 = none →
        CallP Try.prog 49 [(.raw (.pointer x15)), (pI x17)] (Mem.set (Mem.set u0 b3 (some (.cells 51 [(pI a1a), (pS a1b), (pI a1c), (pI a1d), (pS a1e), (pI a1f), (pI a1g), (pS a1h), (pI a1i), (pB a1j), (pB a1k), (pI a1l)]))) b6_1 (some (.cells 51 [(pI (0)), (pS ⟨#[]⟩), (pI (0)), (pI (0)), (pS ⟨#[]⟩), (pI (0)), (pI (0)), (pS ⟨#[]⟩), (pI (0)), (pB false), (pB false), (pI (0))]))) fun v_1 u_3 =>
        ∃ (x18pa_1 : Int), ∃ (x18pb_1 : ByteArray), ∃ (x18pc_1 : Int), ∃ (x18pd_1 : Int), ∃ (x18pe_1 : ByteArray), ∃ (x18pf_1 : Int), ∃ (x18pg_1 : Int), ∃ (x18ph_1 : ByteArray), ∃ (x18pi_1 : Int), ∃ (x18pj_1 : Bool), ∃ (x18pk_1 : Bool), ∃ (x18pl_1 : Int), ∃ (x18q_1 : Bool), v_1 = (.tup [(.agg [(pI x18pa_1), (pS x18pb_1), (pI x18pc_1), (pI x18pd_1), (pS x18pe_1), (pI x18pf_1), (pI x18pg_1), (pS x18ph_1), (pI x18pi_1), (pB x18pj_1), (pB x18pk_1), (pI x18pl_1)]), (pB x18q_1)]) ∧
        stM b6_1 0 [(pI x18pa_1), (pS x18pb_1), (pI x18pc_1), (pI x18pd_1), (pS x18pe_1), (pI x18pf_1), (pI x18pg_1), (pS x18ph_1), (pI x18pi_1), (pB x18pj_1), (pB x18pk_1), (pI x18pl_1)] u_3 fun u_4 =>
        CIf x18q_1
        (R (.tup [(.list 1 .nil []), (pI (3))]) u_4)
        (J ((.nil, []), (0)) u_4))))
  (fun s u =>
    nn a0
    (withPtrP (.raw (.pointer a0)) fun b_1 o_1 =>
      ∃ (x25 : Option Addr), rdM u b_1 o_1 1 = some [(.raw (.pointer x25))] ∧
      ∃ (x27 : Int), rdM u b3 11 1 = some [(pI x27)] ∧
      ∃ (x28a : Int), ∃ (x28b : ByteArray), ∃ (x28c : Int), ∃ (x28d : Int), ∃ (x28e : ByteArray), ∃ (x28f : Int), ∃ (x28g : Int), ∃ (x28h : ByteArray), ∃ (x28i : Int), ∃ (x28j : Bool), ∃ (x28k : Bool), ∃ (x28l : Int), rdM u b3 0 12 = some [(pI x28a), (pS x28b), (pI x28c), (pI x28d), (pS x28e), (pI x28f), (pI x28g), (pS x28h), (pI x28i), (pB x28j), (pB x28k), (pI x28l)] ∧
      CallP Try.prog 50 [(.raw (.pointer x25)), (pI x27), (.agg [(pI x28a), (pS x28b), (pI x28c), (pI x28d), (pS x28e), (pI x28f), (pI x28g), (pS x28h), (pI x28i), (pB x28j), (pB x28k), (pI x28l)])] u fun v_2 u_5 =>
      ∃ (x29 : Bool), v_2 = (pB x29) ∧
      ∀ (b8 : Nat), u_5 b8 = none →
      nn a0
      (withPtrP (.raw (.pointer a0)) fun b_2 o_2 =>
        ∃ (x33 : Option Addr), rdM (Mem.set u_5 b8 (some (.cells 44 [(.list 1 .nil [])]))) b_2 (o_2 + 1) 1 = some [(.raw (.pointer x33))] ∧
        CallP Try.prog 38 [(.raw (.pointer x33))] (Mem.set u_5 b8 (some (.cells 44 [(.list 1 .nil [])]))) fun v_3 u_6 =>
        ∃ (x34 : Fn) (x34a x34b : List PV), v_3 = (.fn x34 x34a x34b) ∧
        RangeP Try.prog (.fn x34 x34a x34b) (fun vs RR u_7 =>
          ∃ (x35 : Int), ∃ (x36a : Int), ∃ (x36b : Bool), ∃ (x36c : ByteArray), ∃ (x36df : Fl) (x36d : List (List PV)), ∃ (x36ef : Fl) (x36e : List (List PV)), ∃ (x36f : Bool), ∃ (x36gf : Fl) (x36g : List (List PV)), ∃ (x36h : Int), ∃ (x36i : Option Addr), vs = [(pI x35), (.agg [(pI x36a), (pB x36b), (pS x36c), (.list 6 x36df x36d), (.list 6 x36ef x36e), (pB x36f), (.list 7 x36gf x36g), (pI x36h), (.raw (.pointer x36i))])] ∧
          ∃ (x39a : Int), ∃ (x39b : ByteArray), ∃ (x39c : Int), ∃ (x39d : Int), ∃ (x39e : ByteArray), ∃ (x39f : Int), ∃ (x39g : Int), ∃ (x39h : ByteArray), ∃ (x39i : Int), ∃ (x39j : Bool), ∃ (x39k : Bool), ∃ (x39l : Int), rdM u_7 b3 0 12 = some [(pI x39a), (pS x39b), (pI x39c), (pI x39d), (pS x39e), (pI x39f), (pI x39g), (pS x39h), (pI x39i), (pB x39j), (pB x39k), (pI x39l)] ∧
          CallP Try.prog 43 [(.agg [(pI x36a), (pB x36b), (pS x36c), (.list 6 .sh x36d), (.list 6 .sh x36e), (pB x36f), (.list 7 .sh x36g)]), (.agg [(pI x39a), (pS x39b), (pI x39c), (pI x39d), (pS x39e), (pI x39f), (pI x39g), (pS x39h), (pI x39i), (pB x39j), (pB x39k), (pI x39l)])] u_7 fun v_4 u_9 =>
          ∃ (x40 : Bool), v_4 = (pB x40) ∧
          CIf x40
          (∃ (x43a : Int), ∃ (x43b : ByteArray), ∃ (x43c : Int), ∃ (x43d : Int), ∃ (x43e : ByteArray), ∃ (x43f : Int), ∃ (x43g : Int), ∃ (x43h : ByteArray), ∃ (x43i : Int), ∃ (x43j : Bool), ∃ (x43k : Bool), ∃ (x43l : Int), rdM u_9 b3 0 12 = some [(pI x43a), (pS x43b), (pI x43c), (pI x43d), (pS x43e), (pI x43f), (pI x43g), (pS x43h), (pI x43i), (pB x43j), (pB x43k), (pI x43l)] ∧
            CallP Try.prog 44 [(.raw (.pointer x36i)), (.agg [(pI x43a), (pS x43b), (pI x43c), (pI x43d), (pS x43e), (pI x43f), (pI x43g), (pS x43h), (pI x43i), (pB x43j), (pB x43k), (pI x43l)])] u_9 fun v_5 u_10 =>
            ∃ (x44 : Bool), v_5 = (pB x44) ∧
            ∃ (x45f : Fl) (x45 : List (List PV)), rdM u_10 b8 0 1 = some [(.list 1 x45f x45)] ∧
            appL false 1 8 x45f x45 [[(pI x35)]] u_10 fun f48 u_11 =>
            stM b8 0 [(.list 1 f48 (x45 ++ [[(pI x35)]]))] u_11 fun u_12 =>
            RR none u_12)
          (RR none u_9))
        (fun p u_8 =>
          PK p
          (∃ (x49f : Fl) (x49 : List (List PV)), rdM u_8 b8 0 1 = some [(.list 1 x49f x49)] ∧
            R (.tup [(.list 1 x49f x49), (pI (0))]) u_8)
          (False)
          [])
        u_6)))

theorem G_alpha_Net_Put.ok (a0 : Option Addr) (a1a : Int) (a1b : ByteArray) (a1c : Int) (a1d : Int) (a1e : ByteArray) (a1f : Int) (a1g : Int) (a1h : ByteArray) (a1i : Int) (a1j : Bool) (a1k : Bool) (a1l : Int) (u0 : Mem) (R : PV → Mem → Prop) : G_alpha_Net_Put.sh a0 a1a a1b a1c a1d a1e a1f a1g a1h a1i a1j a1k a1l u0 R = VF ⟨Try.prog, 50, [10], [], [(4, ⟨[(4, .one (.list 1)), (5, .one (.raw (.int .i64)))], []⟩)], [(35, [72, 77])], [], [], []⟩ ((Try.f22.body).getD .skip) [.tmp 4, .tmp 5] [(.raw (.pointer a0)), (.agg [(pI a1a), (pS a1b), (pI a1c), (pI a1d), (pS a1e), (pI a1f), (pI a1g), (pS a1h), (pI a1i), (pB a1j), (pB a1k), (pI a1l)])] u0 R := by kernel_rfl

theorem G_alpha_Net_Put.c {a0 : Option Addr} {a1a : Int} {a1b : ByteArray} {a1c : Int} {a1d : Int} {a1e : ByteArray} {a1f : Int} {a1g : Int} {a1h : ByteArray} {a1i : Int} {a1j : Bool} {a1k : Bool} {a1l : Int} {u0 : Mem} {K : PV → Mem → Prop} (h : G_alpha_Net_Put.sh a0 a1a a1b a1c a1d a1e a1f a1g a1h a1i a1j a1k a1l u0 K) : CallP Try.prog 22 [(.raw (.pointer a0)), (.agg [(pI a1a), (pS a1b), (pI a1c), (pI a1d), (pS a1e), (pI a1f), (pI a1g), (pS a1h), (pI a1i), (pB a1j), (pB a1k), (pI a1l)])] u0 K :=
  VF_sound (E := ⟨Try.prog, 50, [10], [], [(4, ⟨[(4, .one (.list 1)), (5, .one (.raw (.int .i64)))], []⟩)], [(35, [72, 77])], [], [], []⟩) (rs := [.tmp 4, .tmp 5]) Try.func22 rfl rfl rfl (by kernel_rfl) (by kernel_rfl) (G_alpha_Net_Put.ok a0 a1a a1b a1c a1d a1e a1f a1g a1h a1i a1j a1k a1l u0 K ▸ h)


/-- ponder/ponderkeep.Elems -/
def G_ponderkeep_Elems.sh (a0f : Fl) (a0 : List (List PV)) (a1f : Fl) (a1 : List (List PV)) (u0 : Mem) (R : PV → Mem → Prop) : Prop :=
  CIf ((((List.length a0 : Nat) : Int) : Int) != ((List.length a1 : Nat) : Int))
  (R (pB false) u0)
  (LoopI (α := Int) (fun next s u =>
      CIf (decide ((s : Int) < ((List.length a0 : Nat) : Int)))
      ((0 : Int) ≤ s ∧ ∃ (r19 : List PV), (a0)[Int.toNat s]? = some r19 ∧
        ∃ (x20a : Int), ∃ (x20b : ByteArray), ∃ (x20c : Int), ∃ (x20d : Int), ∃ (x20e : ByteArray), ∃ (x20f : Int), ∃ (x20g : Int), ∃ (x20h : ByteArray), ∃ (x20i : Int), ∃ (x20j : Bool), ∃ (x20k : Bool), ∃ (x20l : Int), rowM r19 0 12 = some [(pI x20a), (pS x20b), (pI x20c), (pI x20d), (pS x20e), (pI x20f), (pI x20g), (pS x20h), (pI x20i), (pB x20j), (pB x20k), (pI x20l)] ∧
        (0 : Int) ≤ s ∧ ∃ (r23 : List PV), (a1)[Int.toNat s]? = some r23 ∧
        ∃ (x24a : Int), ∃ (x24b : ByteArray), ∃ (x24c : Int), ∃ (x24d : Int), ∃ (x24e : ByteArray), ∃ (x24f : Int), ∃ (x24g : Int), ∃ (x24h : ByteArray), ∃ (x24i : Int), ∃ (x24j : Bool), ∃ (x24k : Bool), ∃ (x24l : Int), rowM r23 0 12 = some [(pI x24a), (pS x24b), (pI x24c), (pI x24d), (pS x24e), (pI x24f), (pI x24g), (pS x24h), (pI x24i), (pB x24j), (pB x24k), (pI x24l)] ∧
        CIf (!((x20a == x24a) && (strEq x20b x24b && ((x20c == x24c) && ((x20d == x24d) && (strEq x20e x24e && ((x20f == x24f) && ((x20g == x24g) && (strEq x20h x24h && ((x20i == x24i) && ((x20j == x24j) && ((x20k == x24k) && ((x20l == x24l) && true)))))))))))))
        (R (pB false) u)
        (next (IntKind.wrap .i64 (s + (1))) u))
      (R (pB true) u))
    (0) u0)

theorem G_ponderkeep_Elems.ok (a0f : Fl) (a0 : List (List PV)) (a1f : Fl) (a1 : List (List PV)) (u0 : Mem) (R : PV → Mem → Prop) : G_ponderkeep_Elems.sh a0f a0 a1f a1 u0 R = VF ⟨Try.prog, 26, [], [(4, ⟨[(5, .one (.raw (.int .i64)))], []⟩)], [], [], [], [], []⟩ ((Try.f23.body).getD .skip) [.tmp 4] [(.list 12 a0f a0), (.list 12 a1f a1)] u0 R := by kernel_rfl

theorem G_ponderkeep_Elems.c {a0f : Fl} {a0 : List (List PV)} {a1f : Fl} {a1 : List (List PV)} {u0 : Mem} {K : PV → Mem → Prop} (h : G_ponderkeep_Elems.sh a0f a0 a1f a1 u0 K) : CallP Try.prog 23 [(.list 12 a0f a0), (.list 12 a1f a1)] u0 K :=
  VF_sound (E := ⟨Try.prog, 26, [], [(4, ⟨[(5, .one (.raw (.int .i64)))], []⟩)], [], [], [], [], []⟩) (rs := [.tmp 4]) Try.func23 rfl rfl rfl (by kernel_rfl) (by kernel_rfl) (G_ponderkeep_Elems.ok a0f a0 a1f a1 u0 K ▸ h)


/-- ponder/ponderkeep.List[ponder/api.Elem] -/
def G_ponderkeep_List_api_Elem.sh (a0 : Fn) (a0a a0b : List PV) (u0 : Mem) (R : PV → Mem → Prop) : Prop :=
  ∀ (b3 : Nat), u0 b3 = none →
  RangeP Try.prog (.fn a0 a0a a0b) (fun vs RR u =>
    ∃ (x8a : Int), ∃ (x8b : ByteArray), ∃ (x8c : Int), ∃ (x8d : Int), ∃ (x8e : ByteArray), ∃ (x8f : Int), ∃ (x8g : Int), ∃ (x8h : ByteArray), ∃ (x8i : Int), ∃ (x8j : Bool), ∃ (x8k : Bool), ∃ (x8l : Int), vs = [(.agg [(pI x8a), (pS x8b), (pI x8c), (pI x8d), (pS x8e), (pI x8f), (pI x8g), (pS x8h), (pI x8i), (pB x8j), (pB x8k), (pI x8l)])] ∧
    ∃ (x9f : Fl) (x9 : List (List PV)), rdM u b3 0 1 = some [(.list 12 x9f x9)] ∧
    appL false 12 112 x9f x9 [[(pI x8a), (pS x8b), (pI x8c), (pI x8d), (pS x8e), (pI x8f), (pI x8g), (pS x8h), (pI x8i), (pB x8j), (pB x8k), (pI x8l)]] u fun f12 u_2 =>
    stM b3 0 [(.list 12 f12 (x9 ++ [[(pI x8a), (pS x8b), (pI x8c), (pI x8d), (pS x8e), (pI x8f), (pI x8g), (pS x8h), (pI x8i), (pB x8j), (pB x8k), (pI x8l)]]))] u_2 fun u_3 =>
    RR none u_3)
  (fun p u_1 =>
    PK p
    (∃ (x13f : Fl) (x13 : List (List PV)), rdM u_1 b3 0 1 = some [(.list 12 x13f x13)] ∧
      R (.list 12 x13f x13) u_1)
    (False)
    [])
  (Mem.set u0 b3 (some (.cells 42 [(.list 12 .nil [])])))

theorem G_ponderkeep_List_api_Elem.ok (a0 : Fn) (a0a a0b : List PV) (u0 : Mem) (R : PV → Mem → Prop) : G_ponderkeep_List_api_Elem.sh a0 a0a a0b u0 R = VF ⟨Try.prog, 14, [4], [], [], [(8, [51])], [], [], []⟩ ((Try.f24.body).getD .skip) [.tmp 2] [(.fn a0 a0a a0b)] u0 R := by kernel_rfl

theorem G_ponderkeep_List_api_Elem.c {a0 : Fn} {a0a a0b : List PV} {u0 : Mem} {K : PV → Mem → Prop} (h : G_ponderkeep_List_api_Elem.sh a0 a0a a0b u0 K) : CallP Try.prog 24 [(.fn a0 a0a a0b)] u0 K :=
  VF_sound (E := ⟨Try.prog, 14, [4], [], [], [(8, [51])], [], [], []⟩) (rs := [.tmp 2]) Try.func24 rfl rfl rfl (by kernel_rfl) (by kernel_rfl) (G_ponderkeep_List_api_Elem.ok a0 a0a a0b u0 K ▸ h)


/-- (*ponder/alpha.Net).In -/
def G_alpha_Net_In.sh (a0 : Option Addr) (a1 : Int) (u0 : Mem) (R : PV → Mem → Prop) : Prop :=
  R (.fn (.func 51) [] [(.fptr [(.raw (.pointer a0))] 0), (.fptr [(pI a1)] 0)]) u0

theorem G_alpha_Net_In.ok (a0 : Option Addr) (a1 : Int) (u0 : Mem) (R : PV → Mem → Prop) : G_alpha_Net_In.sh a0 a1 u0 R = VF ⟨Try.prog, 6, [], [], [], [], [2, 3], [], []⟩ ((Try.f25.body).getD .skip) [.tmp 4] [(.raw (.pointer a0)), (pI a1)] u0 R := by kernel_rfl

theorem G_alpha_Net_In.c {a0 : Option Addr} {a1 : Int} {u0 : Mem} {K : PV → Mem → Prop} (h : G_alpha_Net_In.sh a0 a1 u0 K) : CallP Try.prog 25 [(.raw (.pointer a0)), (pI a1)] u0 K :=
  VF_sound (E := ⟨Try.prog, 6, [], [], [], [], [2, 3], [], []⟩) (rs := [.tmp 4]) Try.func25 rfl rfl rfl (by kernel_rfl) (by kernel_rfl) (G_alpha_Net_In.ok a0 a1 u0 K ▸ h)


/-- (*ponder/alpha.Net).Drop -/
def G_alpha_Net_Drop.sh (a0 : Option Addr) (a1 : Int) (u0 : Mem) (R : PV → Mem → Prop) : Prop :=
  nn a0
  (withPtrP (.raw (.pointer a0)) fun b o =>
    ∃ (x15 : Option Addr), rdM u0 b o 1 = some [(.raw (.pointer x15))] ∧
    CallP Try.prog 53 [(.raw (.pointer x15)), (pI a1)] u0 fun v u =>
    ∃ (x17pa : Int), ∃ (x17pb : ByteArray), ∃ (x17pc : Int), ∃ (x17pd : Int), ∃ (x17pe : ByteArray), ∃ (x17pf : Int), ∃ (x17pg : Int), ∃ (x17ph : ByteArray), ∃ (x17pi : Int), ∃ (x17pj : Bool), ∃ (x17pk : Bool), ∃ (x17pl : Int), ∃ (x17q : Bool), v = (.tup [(.agg [(pI x17pa), (pS x17pb), (pI x17pc), (pI x17pd), (pS x17pe), (pI x17pf), (pI x17pg), (pS x17ph), (pI x17pi), (pB x17pj), (pB x17pk), (pI x17pl)]), (pB x17q)]) ∧
    ∀ (b6 : Nat), u b6 = none →
    stM b6 0 [(pI x17pa), (pS x17pb), (pI x17pc), (pI x17pd), (pS x17pe), (pI x17pf), (pI x17pg), (pS x17ph), (pI x17pi), (pB x17pj), (pB x17pk), (pI x17pl)] (Mem.set u b6 (some (.cells 51 [(pI (0)), (pS ⟨#[]⟩), (pI (0)), (pI (0)), (pS ⟨#[]⟩), (pI (0)), (pI (0)), (pS ⟨#[]⟩), (pI (0)), (pB false), (pB false), (pI (0))]))) fun u_1 =>
    CIf (!x17q)
    (R (.tup [(.list 1 .nil []), (pI (4))]) u_1)
    (∀ (b8 : Nat), u_1 b8 = none →
      nn a0
      (withPtrP (.raw (.pointer a0)) fun b_1 o_1 =>
        ∃ (x25 : Option Addr), rdM (Mem.set u_1 b8 (some (.cells 44 [(.list 1 .nil [])]))) b_1 (o_1 + 1) 1 = some [(.raw (.pointer x25))] ∧
        CallP Try.prog 38 [(.raw (.pointer x25))] (Mem.set u_1 b8 (some (.cells 44 [(.list 1 .nil [])]))) fun v_1 u_2 =>
        ∃ (x26 : Fn) (x26a x26b : List PV), v_1 = (.fn x26 x26a x26b) ∧
        RangeP Try.prog (.fn x26 x26a x26b) (fun vs RR u_3 =>
          ∃ (x27 : Int), ∃ (x28a : Int), ∃ (x28b : Bool), ∃ (x28c : ByteArray), ∃ (x28df : Fl) (x28d : List (List PV)), ∃ (x28ef : Fl) (x28e : List (List PV)), ∃ (x28f : Bool), ∃ (x28gf : Fl) (x28g : List (List PV)), ∃ (x28h : Int), ∃ (x28i : Option Addr), vs = [(pI x27), (.agg [(pI x28a), (pB x28b), (pS x28c), (.list 6 x28df x28d), (.list 6 x28ef x28e), (pB x28f), (.list 7 x28gf x28g), (pI x28h), (.raw (.pointer x28i))])] ∧
          ∃ (x31a : Int), ∃ (x31b : ByteArray), ∃ (x31c : Int), ∃ (x31d : Int), ∃ (x31e : ByteArray), ∃ (x31f : Int), ∃ (x31g : Int), ∃ (x31h : ByteArray), ∃ (x31i : Int), ∃ (x31j : Bool), ∃ (x31k : Bool), ∃ (x31l : Int), rdM u_3 b6 0 12 = some [(pI x31a), (pS x31b), (pI x31c), (pI x31d), (pS x31e), (pI x31f), (pI x31g), (pS x31h), (pI x31i), (pB x31j), (pB x31k), (pI x31l)] ∧
          CallP Try.prog 54 [(.raw (.pointer x28i)), (.agg [(pI x31a), (pS x31b), (pI x31c), (pI x31d), (pS x31e), (pI x31f), (pI x31g), (pS x31h), (pI x31i), (pB x31j), (pB x31k), (pI x31l)])] u_3 fun v_2 u_5 =>
          ∃ (x32 : Bool), v_2 = (pB x32) ∧
          CIf x32
          (∃ (x33f : Fl) (x33 : List (List PV)), rdM u_5 b8 0 1 = some [(.list 1 x33f x33)] ∧
            appL false 1 8 x33f x33 [[(pI x27)]] u_5 fun f36 u_6 =>
            stM b8 0 [(.list 1 f36 (x33 ++ [[(pI x27)]]))] u_6 fun u_7 =>
            RR none u_7)
          (RR none u_5))
        (fun p u_4 =>
          PK p
          (∃ (x37f : Fl) (x37 : List (List PV)), rdM u_4 b8 0 1 = some [(.list 1 x37f x37)] ∧
            R (.tup [(.list 1 x37f x37), (pI (0))]) u_4)
          (False)
          [])
        u_2)))

theorem G_alpha_Net_Drop.ok (a0 : Option Addr) (a1 : Int) (u0 : Mem) (R : PV → Mem → Prop) : G_alpha_Net_Drop.sh a0 a1 u0 R = VF ⟨Try.prog, 38, [10], [], [], [(27, [72, 77])], [], [], []⟩ ((Try.f26.body).getD .skip) [.tmp 4, .tmp 5] [(.raw (.pointer a0)), (pI a1)] u0 R := by kernel_rfl

theorem G_alpha_Net_Drop.c {a0 : Option Addr} {a1 : Int} {u0 : Mem} {K : PV → Mem → Prop} (h : G_alpha_Net_Drop.sh a0 a1 u0 K) : CallP Try.prog 26 [(.raw (.pointer a0)), (pI a1)] u0 K :=
  VF_sound (E := ⟨Try.prog, 38, [10], [], [], [(27, [72, 77])], [], [], []⟩) (rs := [.tmp 4, .tmp 5]) Try.func26 rfl rfl rfl (by kernel_rfl) (by kernel_rfl) (G_alpha_Net_Drop.ok a0 a1 u0 K ▸ h)


/-- ponder/ponderkeep.heavyTests -/
def G_ponderkeep_heavyTests.sh (a0f : Fl) (a0 : List (List PV)) (u0 : Mem) (R : PV → Mem → Prop) : Prop :=
  LoopI (α := Int) (fun next s u =>
    CIf (decide ((s : Int) < ((List.length a0 : Nat) : Int)))
    ((0 : Int) ≤ s ∧ ∃ (r12 : List PV), (a0)[Int.toNat s]? = some r12 ∧
      ∃ (x14f : Fl) (x14 : List (List PV)), rowM r12 5 1 = some [(.list 3 x14f x14)] ∧
      CIf (decide ((((List.length x14 : Nat) : Int) : Int) > (20)))
      (R (pB true) u)
      ((0 : Int) ≤ s ∧ ∃ (r20 : List PV), (a0)[Int.toNat s]? = some r20 ∧
        ∃ (x22 : ByteArray), rowM r20 1 1 = some [(pS x22)] ∧
        CIf (decide ((((ByteArray.size x22 : Nat) : Int) : Int) > (100)))
        (R (pB true) u)
        ((0 : Int) ≤ s ∧ ∃ (r29 : List PV), (a0)[Int.toNat s]? = some r29 ∧
          ∃ (x32 : ByteArray), rowM r29 3 1 = some [(pS x32)] ∧
          CIf (decide ((((ByteArray.size x32 : Nat) : Int) : Int) > (100)))
          (R (pB true) u)
          (next (IntKind.wrap .i64 (s + (1))) u))))
    (R (pB false) u))
  (0) u0

theorem G_ponderkeep_heavyTests.ok (a0f : Fl) (a0 : List (List PV)) (u0 : Mem) (R : PV → Mem → Prop) : G_ponderkeep_heavyTests.sh a0f a0 u0 R = VF ⟨Try.prog, 36, [], [(2, ⟨[(3, .one (.raw (.int .i64)))], []⟩)], [], [], [], [], []⟩ ((Try.f27.body).getD .skip) [.tmp 2] [(.list 6 a0f a0)] u0 R := by kernel_rfl

theorem G_ponderkeep_heavyTests.c {a0f : Fl} {a0 : List (List PV)} {u0 : Mem} {K : PV → Mem → Prop} (h : G_ponderkeep_heavyTests.sh a0f a0 u0 K) : CallP Try.prog 27 [(.list 6 a0f a0)] u0 K :=
  VF_sound (E := ⟨Try.prog, 36, [], [(2, ⟨[(3, .one (.raw (.int .i64)))], []⟩)], [], [], [], [], []⟩) (rs := [.tmp 2]) Try.func27 rfl rfl rfl (by kernel_rfl) (by kernel_rfl) (G_ponderkeep_heavyTests.ok a0f a0 u0 K ▸ h)


/-- ponder/ponderlaw09.W -/
def G_ponderlaw09_W.sh (a0 : ByteArray) (u0 : Mem) (R : PV → Mem → Prop) : Prop :=
  R (.agg [(pI (3)), (pS a0), (pI (0))]) u0

theorem G_ponderlaw09_W.ok (a0 : ByteArray) (u0 : Mem) (R : PV → Mem → Prop) : G_ponderlaw09_W.sh a0 u0 R = VF ⟨Try.prog, 5, [2], [], [], [], [], [], []⟩ ((Try.f28.body).getD .skip) [.cell 2 49] [(pS a0)] u0 R := by kernel_rfl

theorem G_ponderlaw09_W.c {a0 : ByteArray} {u0 : Mem} {K : PV → Mem → Prop} (h : G_ponderlaw09_W.sh a0 u0 K) : CallP Try.prog 28 [(pS a0)] u0 K :=
  VF_sound (E := ⟨Try.prog, 5, [2], [], [], [], [], [], []⟩) (rs := [.cell 2 49]) Try.func28 rfl rfl rfl (by kernel_rfl) (by kernel_rfl) (G_ponderlaw09_W.ok a0 u0 K ▸ h)


/-- ponder/ponderlaw09.N -/
def G_ponderlaw09_N.sh (a0 : Int) (u0 : Mem) (R : PV → Mem → Prop) : Prop :=
  R (.agg [(pI (2)), (pS ⟨#[]⟩), (pI a0)]) u0

theorem G_ponderlaw09_N.ok (a0 : Int) (u0 : Mem) (R : PV → Mem → Prop) : G_ponderlaw09_N.sh a0 u0 R = VF ⟨Try.prog, 5, [2], [], [], [], [], [], []⟩ ((Try.f29.body).getD .skip) [.cell 2 49] [(pI a0)] u0 R := by kernel_rfl

theorem G_ponderlaw09_N.c {a0 : Int} {u0 : Mem} {K : PV → Mem → Prop} (h : G_ponderlaw09_N.sh a0 u0 K) : CallP Try.prog 29 [(pI a0)] u0 K :=
  VF_sound (E := ⟨Try.prog, 5, [2], [], [], [], [], [], []⟩) (rs := [.cell 2 49]) Try.func29 rfl rfl rfl (by kernel_rfl) (by kernel_rfl) (G_ponderlaw09_N.ok a0 u0 K ▸ h)


/-- ponder/ponderkeep.CopyTests -/
def G_ponderkeep_CopyTests.sh (a0f : Fl) (a0 : List (List PV)) (u0 : Mem) (R : PV → Mem → Prop) : Prop :=
  LoopI (α := (Fl × List (List PV)) × Int) (fun next s u =>
    CIf (decide ((s.2 : Int) < ((List.length a0 : Nat) : Int)))
    ((0 : Int) ≤ s.2 ∧ ∃ (r14 : List PV), (a0)[Int.toNat s.2]? = some r14 ∧
      ∃ (x15a : Int), ∃ (x15b : ByteArray), ∃ (x15c : Int), ∃ (x15d : ByteArray), ∃ (x15e : Int), ∃ (x15ff : Fl) (x15f : List (List PV)), rowM r14 0 6 = some [(pI x15a), (pS x15b), (pI x15c), (pS x15d), (pI x15e), (.list 3 x15ff x15f)] ∧
      (0 : Int) ≤ s.2 ∧ ∃ (r18 : List PV), (a0)[Int.toNat s.2]? = some r18 ∧
      ∃ (x20f : Fl) (x20 : List (List PV)), rowM r18 5 1 = some [(.list 3 x20f x20)] ∧
      CallP Try.prog 55 [(.list 3 x20f x20)] u fun v u_1 =>
      ∃ (x21f : Fl) (x21 : List (List PV)), v = (.list 3 x21f x21) ∧
      appL false 6 80 s.1.1 s.1.2 [[(pI x15a), (pS x15b), (pI x15c), (pS x15d), (pI x15e), (.list 3 .sh x21)]] u_1 fun f26 u_2 =>
      next ((f26, (s.1.2 ++ [[(pI x15a), (pS x15b), (pI x15c), (pS x15d), (pI x15e), (.list 3 .sh x21)]])), (IntKind.wrap .i64 (s.2 + (1)))) u_2)
    (R (.list 6 s.1.1 s.1.2) u))
  ((.nil, []), (0)) u0

theorem G_ponderkeep_CopyTests.ok (a0f : Fl) (a0 : List (List PV)) (u0 : Mem) (R : PV → Mem → Prop) : G_ponderkeep_CopyTests.sh a0f a0 u0 R = VF ⟨Try.prog, 28, [5], [(3, ⟨[(3, .one (.list 6)), (4, .one (.raw (.int .i64)))], []⟩)], [], [], [], [], []⟩ ((Try.f30.body).getD .skip) [.tmp 2] [(.list 6 a0f a0)] u0 R := by kernel_rfl

theorem G_ponderkeep_CopyTests.c {a0f : Fl} {a0 : List (List PV)} {u0 : Mem} {K : PV → Mem → Prop} (h : G_ponderkeep_CopyTests.sh a0f a0 u0 K) : CallP Try.prog 30 [(.list 6 a0f a0)] u0 K :=
  VF_sound (E := ⟨Try.prog, 28, [5], [(3, ⟨[(3, .one (.list 6)), (4, .one (.raw (.int .i64)))], []⟩)], [], [], [], [], []⟩) (rs := [.tmp 2]) Try.func30 rfl rfl rfl (by kernel_rfl) (by kernel_rfl) (G_ponderkeep_CopyTests.ok a0f a0 u0 K ▸ h)


/-- ponder/ponderkeep.CopyTests -/
def G_ponderkeep_CopyTests_w.sh (a0f : Fl) (a0 : List (List PV)) (u0 : Mem) (R : PV → Mem → Prop) : Prop :=
  LoopI (α := (Option Addr × Nat × Nat) × Int) (fun next s u =>
    CIf (decide ((s.2 : Int) < ((List.length a0 : Nat) : Int)))
    ((0 : Int) ≤ s.2 ∧ ∃ (r14 : List PV), (a0)[Int.toNat s.2]? = some r14 ∧
      ∃ (x15a : Int), ∃ (x15b : ByteArray), ∃ (x15c : Int), ∃ (x15d : ByteArray), ∃ (x15e : Int), ∃ (x15ff : Fl) (x15f : List (List PV)), rowM r14 0 6 = some [(pI x15a), (pS x15b), (pI x15c), (pS x15d), (pI x15e), (.list 3 x15ff x15f)] ∧
      (0 : Int) ≤ s.2 ∧ ∃ (r18 : List PV), (a0)[Int.toNat s.2]? = some r18 ∧
      ∃ (x20f : Fl) (x20 : List (List PV)), rowM r18 5 1 = some [(.list 3 x20f x20)] ∧
      CallP Try.prog 55 [(.list 3 x20f x20)] u fun v u_1 =>
      ∃ (x21f : Fl) (x21 : List (List PV)), v = (.list 3 x21f x21) ∧
      appR 6 80 64 s.1.1 s.1.2.1 s.1.2.2 (.list 6 .nr [[(pI x15a), (pS x15b), (pI x15c), (pS x15d), (pI x15e), (.list 3 .sh x21)]]) u_1 fun s26 s26n s26c u_2 =>
      next ((s26, s26n, s26c), (IntKind.wrap .i64 (s.2 + (1)))) u_2)
    (R (.raw (.slice s.1.1 s.1.2.1 s.1.2.2)) u))
  ((none, 0, 0), (0)) u0

theorem G_ponderkeep_CopyTests_w.ok (a0f : Fl) (a0 : List (List PV)) (u0 : Mem) (R : PV → Mem → Prop) : G_ponderkeep_CopyTests_w.sh a0f a0 u0 R = VF ⟨Try.prog, 28, [5], [(3, ⟨[(3, .one (.raw .slice)), (4, .one (.raw (.int .i64)))], []⟩)], [], [], [], [], [2, 3, 23, 26, 27]⟩ ((Try.f30.body).getD .skip) [.tmp 2] [(.list 6 a0f a0)] u0 R := by kernel_rfl

theorem G_ponderkeep_CopyTests_w.c {a0f : Fl} {a0 : List (List PV)} {u0 : Mem} {K : PV → Mem → Prop} (h : G_ponderkeep_CopyTests_w.sh a0f a0 u0 K) : CallP Try.prog 30 [(.list 6 a0f a0)] u0 K :=
  VF_sound (E := ⟨Try.prog, 28, [5], [(3, ⟨[(3, .one (.raw .slice)), (4, .one (.raw (.int .i64)))], []⟩)], [], [], [], [], [2, 3, 23, 26, 27]⟩) (rs := [.tmp 2]) Try.func30 rfl rfl rfl (by kernel_rfl) (by kernel_rfl) (G_ponderkeep_CopyTests_w.ok a0f a0 u0 K ▸ h)


/-- ponder/ponderkeep.CopyTests -/
def G_ponderkeep_CopyTests_s.sh (a0f : Fl) (a0 : List (List PV)) (u0 : Mem) (R : PV → Mem → Prop) : Prop :=
  LoopI (α := (Option Addr × Nat × Nat) × Int) (fun next s u =>
    CIf (decide ((s.2 : Int) < ((List.length a0 : Nat) : Int)))
    ((0 : Int) ≤ s.2 ∧ ∃ (r14 : List PV), (a0)[Int.toNat s.2]? = some r14 ∧
      ∃ (x15a : Int), ∃ (x15b : ByteArray), ∃ (x15c : Int), ∃ (x15d : ByteArray), ∃ (x15e : Int), ∃ (x15ff : Fl) (x15f : List (List PV)), rowM r14 0 6 = some [(pI x15a), (pS x15b), (pI x15c), (pS x15d), (pI x15e), (.list 3 x15ff x15f)] ∧
      (0 : Int) ≤ s.2 ∧ ∃ (r18 : List PV), (a0)[Int.toNat s.2]? = some r18 ∧
      ∃ (x20f : Fl) (x20 : List (List PV)), rowM r18 5 1 = some [(.list 3 x20f x20)] ∧
      CallP Try.prog 55 [(.list 3 x20f x20)] u fun v u_1 =>
      ∃ (x21 : Option Addr) (x21n x21c : Nat), v = (.raw (.slice x21 x21n x21c)) ∧
      appR 6 80 64 s.1.1 s.1.2.1 s.1.2.2 (.list 6 .nr [[(pI x15a), (pS x15b), (pI x15c), (pS x15d), (pI x15e), (.raw (.slice x21 x21n x21c))]]) u_1 fun s26 s26n s26c u_2 =>
      next ((s26, s26n, s26c), (IntKind.wrap .i64 (s.2 + (1)))) u_2)
    (R (.raw (.slice s.1.1 s.1.2.1 s.1.2.2)) u))
  ((none, 0, 0), (0)) u0

theorem G_ponderkeep_CopyTests_s.ok (a0f : Fl) (a0 : List (List PV)) (u0 : Mem) (R : PV → Mem → Prop) : G_ponderkeep_CopyTests_s.sh a0f a0 u0 R = VF ⟨Try.prog, 28, [5], [(3, ⟨[(3, .one (.raw .slice)), (4, .one (.raw (.int .i64)))], []⟩)], [], [], [], [], [2, 3, 21, 23, 26, 27]⟩ ((Try.f30.body).getD .skip) [.tmp 2] [(.list 6 a0f a0)] u0 R := by kernel_rfl

theorem G_ponderkeep_CopyTests_s.c {a0f : Fl} {a0 : List (List PV)} {u0 : Mem} {K : PV → Mem → Prop} (h : G_ponderkeep_CopyTests_s.sh a0f a0 u0 K) : CallP Try.prog 30 [(.list 6 a0f a0)] u0 K :=
  VF_sound (E := ⟨Try.prog, 28, [5], [(3, ⟨[(3, .one (.raw .slice)), (4, .one (.raw (.int .i64)))], []⟩)], [], [], [], [], [2, 3, 21, 23, 26, 27]⟩) (rs := [.tmp 2]) Try.func30 rfl rfl rfl (by kernel_rfl) (by kernel_rfl) (G_ponderkeep_CopyTests_s.ok a0f a0 u0 K ▸ h)


/-- ponder/ponderkeep.CopyConds -/
def G_ponderkeep_CopyConds.sh (a0f : Fl) (a0 : List (List PV)) (u0 : Mem) (R : PV → Mem → Prop) : Prop :=
  LoopI (α := (Fl × List (List PV)) × Int) (fun next s u =>
    CIf (decide ((s.2 : Int) < ((List.length a0 : Nat) : Int)))
    ((0 : Int) ≤ s.2 ∧ ∃ (r14 : List PV), (a0)[Int.toNat s.2]? = some r14 ∧
      ∃ (x15a : Int), ∃ (x15b : Bool), ∃ (x15c : ByteArray), ∃ (x15df : Fl) (x15d : List (List PV)), ∃ (x15ef : Fl) (x15e : List (List PV)), ∃ (x15f : Bool), ∃ (x15gf : Fl) (x15g : List (List PV)), rowM r14 0 7 = some [(pI x15a), (pB x15b), (pS x15c), (.list 6 x15df x15d), (.list 6 x15ef x15e), (pB x15f), (.list 7 x15gf x15g)] ∧
      CallP Try.prog 10 [(.agg [(pI x15a), (pB x15b), (pS x15c), (.list 6 .sh x15d), (.list 6 .sh x15e), (pB x15f), (.list 7 .sh x15g)])] u fun v u_1 =>
      ∃ (x16a : Int), ∃ (x16b : Bool), ∃ (x16c : ByteArray), ∃ (x16df : Fl) (x16d : List (List PV)), ∃ (x16ef : Fl) (x16e : List (List PV)), ∃ (x16f : Bool), ∃ (x16gf : Fl) (x16g : List (List PV)), v = (.agg [(pI x16a), (pB x16b), (pS x16c), (.list 6 x16df x16d), (.list 6 x16ef x16e), (pB x16f), (.list 7 x16gf x16g)]) ∧
      appL false 7 112 s.1.1 s.1.2 [[(pI x16a), (pB x16b), (pS x16c), (.list 6 .sh x16d), (.list 6 .sh x16e), (pB x16f), (.list 7 .sh x16g)]] u_1 fun f18 u_2 =>
      next ((f18, (s.1.2 ++ [[(pI x16a), (pB x16b), (pS x16c), (.list 6 .sh x16d), (.list 6 .sh x16e), (pB x16f), (.list 7 .sh x16g)]])), (IntKind.wrap .i64 (s.2 + (1)))) u_2)
    (R (.list 7 s.1.1 s.1.2) u))
  ((.nil, []), (0)) u0

theorem G_ponderkeep_CopyConds.ok (a0f : Fl) (a0 : List (List PV)) (u0 : Mem) (R : PV → Mem → Prop) : G_ponderkeep_CopyConds.sh a0f a0 u0 R = VF ⟨Try.prog, 20, [], [(3, ⟨[(3, .one (.list 7)), (4, .one (.raw (.int .i64)))], []⟩)], [], [], [], [], []⟩ ((Try.f31.body).getD .skip) [.tmp 2] [(.list 7 a0f a0)] u0 R := by kernel_rfl

theorem G_ponderkeep_CopyConds.c {a0f : Fl} {a0 : List (List PV)} {u0 : Mem} {K : PV → Mem → Prop} (h : G_ponderkeep_CopyConds.sh a0f a0 u0 K) : CallP Try.prog 31 [(.list 7 a0f a0)] u0 K :=
  VF_sound (E := ⟨Try.prog, 20, [], [(3, ⟨[(3, .one (.list 7)), (4, .one (.raw (.int .i64)))], []⟩)], [], [], [], [], []⟩) (rs := [.tmp 2]) Try.func31 rfl rfl rfl (by kernel_rfl) (by kernel_rfl) (G_ponderkeep_CopyConds.ok a0f a0 u0 K ▸ h)


/-- ponder/ponderkeep.CopyConds -/
def G_ponderkeep_CopyConds_w.sh (a0f : Fl) (a0 : List (List PV)) (u0 : Mem) (R : PV → Mem → Prop) : Prop :=
  LoopI (α := (Option Addr × Nat × Nat) × Int) (fun next s u =>
    CIf (decide ((s.2 : Int) < ((List.length a0 : Nat) : Int)))
    ((0 : Int) ≤ s.2 ∧ ∃ (r14 : List PV), (a0)[Int.toNat s.2]? = some r14 ∧
      ∃ (x15a : Int), ∃ (x15b : Bool), ∃ (x15c : ByteArray), ∃ (x15df : Fl) (x15d : List (List PV)), ∃ (x15ef : Fl) (x15e : List (List PV)), ∃ (x15f : Bool), ∃ (x15gf : Fl) (x15g : List (List PV)), rowM r14 0 7 = some [(pI x15a), (pB x15b), (pS x15c), (.list 6 x15df x15d), (.list 6 x15ef x15e), (pB x15f), (.list 7 x15gf x15g)] ∧
      CallP Try.prog 10 [(.agg [(pI x15a), (pB x15b), (pS x15c), (.list 6 .sh x15d), (.list 6 .sh x15e), (pB x15f), (.list 7 .sh x15g)])] u fun v u_1 =>
      ∃ (x16a : Int), ∃ (x16b : Bool), ∃ (x16c : ByteArray), ∃ (x16d : Option Addr) (x16dn x16dc : Nat), ∃ (x16e : Option Addr) (x16en x16ec : Nat), ∃ (x16f : Bool), ∃ (x16g : Option Addr) (x16gn x16gc : Nat), v = (.agg [(pI x16a), (pB x16b), (pS x16c), (.raw (.slice x16d x16dn x16dc)), (.raw (.slice x16e x16en x16ec)), (pB x16f), (.raw (.slice x16g x16gn x16gc))]) ∧
      appR 7 112 25 s.1.1 s.1.2.1 s.1.2.2 (.list 7 .nr [[(pI x16a), (pB x16b), (pS x16c), (.raw (.slice x16d x16dn x16dc)), (.raw (.slice x16e x16en x16ec)), (pB x16f), (.raw (.slice x16g x16gn x16gc))]]) u_1 fun s18 s18n s18c u_2 =>
      next ((s18, s18n, s18c), (IntKind.wrap .i64 (s.2 + (1)))) u_2)
    (R (.raw (.slice s.1.1 s.1.2.1 s.1.2.2)) u))
  ((none, 0, 0), (0)) u0

theorem G_ponderkeep_CopyConds_w.ok (a0f : Fl) (a0 : List (List PV)) (u0 : Mem) (R : PV → Mem → Prop) : G_ponderkeep_CopyConds_w.sh a0f a0 u0 R = VF ⟨Try.prog, 20, [], [(3, ⟨[(3, .one (.raw .slice)), (4, .one (.raw (.int .i64)))], []⟩)], [], [], [], [], [2, 3, 11, 16, 18, 19]⟩ ((Try.f31.body).getD .skip) [.tmp 2] [(.list 7 a0f a0)] u0 R := by kernel_rfl

theorem G_ponderkeep_CopyConds_w.c {a0f : Fl} {a0 : List (List PV)} {u0 : Mem} {K : PV → Mem → Prop} (h : G_ponderkeep_CopyConds_w.sh a0f a0 u0 K) : CallP Try.prog 31 [(.list 7 a0f a0)] u0 K :=
  VF_sound (E := ⟨Try.prog, 20, [], [(3, ⟨[(3, .one (.raw .slice)), (4, .one (.raw (.int .i64)))], []⟩)], [], [], [], [], [2, 3, 11, 16, 18, 19]⟩) (rs := [.tmp 2]) Try.func31 rfl rfl rfl (by kernel_rfl) (by kernel_rfl) (G_ponderkeep_CopyConds_w.ok a0f a0 u0 K ▸ h)


/-- ponder/ponderkeep.CopyConds -/
def G_ponderkeep_CopyConds_s.sh (a0f : Fl) (a0 : List (List PV)) (u0 : Mem) (R : PV → Mem → Prop) : Prop :=
  LoopI (α := (Option Addr × Nat × Nat) × Int) (fun next s u =>
    CIf (decide ((s.2 : Int) < ((List.length a0 : Nat) : Int)))
    ((0 : Int) ≤ s.2 ∧ ∃ (r14 : List PV), (a0)[Int.toNat s.2]? = some r14 ∧
      ∃ (x15a : Int), ∃ (x15b : Bool), ∃ (x15c : ByteArray), ∃ (x15df : Fl) (x15d : List (List PV)), ∃ (x15ef : Fl) (x15e : List (List PV)), ∃ (x15f : Bool), ∃ (x15gf : Fl) (x15g : List (List PV)), rowM r14 0 7 = some [(pI x15a), (pB x15b), (pS x15c), (.list 6 x15df x15d), (.list 6 x15ef x15e), (pB x15f), (.list 7 x15gf x15g)] ∧
      CallP Try.prog 10 [(.agg [(pI x15a), (pB x15b), (pS x15c), (.list 6 .sh x15d), (.list 6 .sh x15e), (pB x15f), (.list 7 .sh x15g)])] u fun v u_1 =>
      ∃ (x16a : Int), ∃ (x16b : Bool), ∃ (x16c : ByteArray), ∃ (x16d : Option Addr) (x16dn x16dc : Nat), ∃ (x16e : Option Addr) (x16en x16ec : Nat), ∃ (x16f : Bool), ∃ (x16g : Option Addr) (x16gn x16gc : Nat), v = (.agg [(pI x16a), (pB x16b), (pS x16c), (.raw (.slice x16d x16dn x16dc)), (.raw (.slice x16e x16en x16ec)), (pB x16f), (.raw (.slice x16g x16gn x16gc))]) ∧
      appR 7 112 25 s.1.1 s.1.2.1 s.1.2.2 (.list 7 .nr [[(pI x16a), (pB x16b), (pS x16c), (.raw (.slice x16d x16dn x16dc)), (.raw (.slice x16e x16en x16ec)), (pB x16f), (.raw (.slice x16g x16gn x16gc))]]) u_1 fun s18 s18n s18c u_2 =>
      next ((s18, s18n, s18c), (IntKind.wrap .i64 (s.2 + (1)))) u_2)
    (R (.raw (.slice s.1.1 s.1.2.1 s.1.2.2)) u))
  ((none, 0, 0), (0)) u0

theorem G_ponderkeep_CopyConds_s.ok (a0f : Fl) (a0 : List (List PV)) (u0 : Mem) (R : PV → Mem → Prop) : G_ponderkeep_CopyConds_s.sh a0f a0 u0 R = VF ⟨Try.prog, 20, [], [(3, ⟨[(3, .one (.raw .slice)), (4, .one (.raw (.int .i64)))], []⟩)], [], [], [], [], [2, 3, 11, 16, 18, 19]⟩ ((Try.f31.body).getD .skip) [.tmp 2] [(.list 7 a0f a0)] u0 R := by kernel_rfl

theorem G_ponderkeep_CopyConds_s.c {a0f : Fl} {a0 : List (List PV)} {u0 : Mem} {K : PV → Mem → Prop} (h : G_ponderkeep_CopyConds_s.sh a0f a0 u0 K) : CallP Try.prog 31 [(.list 7 a0f a0)] u0 K :=
  VF_sound (E := ⟨Try.prog, 20, [], [(3, ⟨[(3, .one (.raw .slice)), (4, .one (.raw (.int .i64)))], []⟩)], [], [], [], [], [2, 3, 11, 16, 18, 19]⟩) (rs := [.tmp 2]) Try.func31 rfl rfl rfl (by kernel_rfl) (by kernel_rfl) (G_ponderkeep_CopyConds_s.ok a0f a0 u0 K ▸ h)


/-- ponder/alpha.still -/
def G_alpha_still.sh (a0f : Fl) (a0 : List (List PV)) (u0 : Mem) (R : PV → Mem → Prop) : Prop :=
  LoopI (α := (Fl × List (List PV)) × Int) (fun next s u =>
    CIf (decide ((s.2 : Int) < ((List.length a0 : Nat) : Int)))
    ((0 : Int) ≤ s.2 ∧ ∃ (r10 : List PV), (a0)[Int.toNat s.2]? = some r10 ∧
      ∃ (x11a : Int), ∃ (x11b : ByteArray), ∃ (x11c : Int), ∃ (x11d : ByteArray), ∃ (x11e : Int), ∃ (x11ff : Fl) (x11f : List (List PV)), rowM r10 0 6 = some [(pI x11a), (pS x11b), (pI x11c), (pS x11d), (pI x11e), (.list 3 x11ff x11f)] ∧
      CIf (strEq x11b ⟨#[]⟩)
      (appL false 3 32 .nil [] x11f u fun f17 u_1 =>
        appL false 6 80 s.1.1 s.1.2 [[(pI x11a), (pS x11b), (pI x11c), (pS x11d), (pI x11e), (.list 3 .sh ([] ++ x11f))]] u_1 fun f22 u_2 =>
        next ((f22, (s.1.2 ++ [[(pI x11a), (pS x11b), (pI x11c), (pS x11d), (pI x11e), (.list 3 .sh ([] ++ x11f))]])), (IntKind.wrap .i64 (s.2 + (1)))) u_2)
      (next ((s.1.1, s.1.2), (IntKind.wrap .i64 (s.2 + (1)))) u))
    (R (.list 6 s.1.1 s.1.2) u))
  ((.nil, []), (0)) u0

theorem G_alpha_still.ok (a0f : Fl) (a0 : List (List PV)) (u0 : Mem) (R : PV → Mem → Prop) : G_alpha_still.sh a0f a0 u0 R = VF ⟨Try.prog, 25, [5], [(3, ⟨[(3, .one (.list 6)), (8, .one (.raw (.int .i64)))], []⟩)], [], [], [], [], []⟩ ((Try.f32.body).getD .skip) [.tmp 2] [(.list 6 a0f a0)] u0 R := by kernel_rfl

theorem G_alpha_still.c {a0f : Fl} {a0 : List (List PV)} {u0 : Mem} {K : PV → Mem → Prop} (h : G_alpha_still.sh a0f a0 u0 K) : CallP Try.prog 32 [(.list 6 a0f a0)] u0 K :=
  VF_sound (E := ⟨Try.prog, 25, [5], [(3, ⟨[(3, .one (.list 6)), (8, .one (.raw (.int .i64)))], []⟩)], [], [], [], [], []⟩) (rs := [.tmp 2]) Try.func32 rfl rfl rfl (by kernel_rfl) (by kernel_rfl) (G_alpha_still.ok a0f a0 u0 K ▸ h)


/-- ponder/alpha.still -/
def G_alpha_still_s.sh (a0f : Fl) (a0 : List (List PV)) (u0 : Mem) (R : PV → Mem → Prop) : Prop :=
  LoopI (α := (Option Addr × Nat × Nat) × Int) (fun next s u =>
    CIf (decide ((s.2 : Int) < ((List.length a0 : Nat) : Int)))
    ((0 : Int) ≤ s.2 ∧ ∃ (r10 : List PV), (a0)[Int.toNat s.2]? = some r10 ∧
      ∃ (x11a : Int), ∃ (x11b : ByteArray), ∃ (x11c : Int), ∃ (x11d : ByteArray), ∃ (x11e : Int), ∃ (x11ff : Fl) (x11f : List (List PV)), rowM r10 0 6 = some [(pI x11a), (pS x11b), (pI x11c), (pS x11d), (pI x11e), (.list 3 x11ff x11f)] ∧
      CIf (strEq x11b ⟨#[]⟩)
      (appR 3 32 49 none 0 0 (.list 3 x11ff x11f) u fun s17 s17n s17c u_1 =>
        appR 6 80 64 s.1.1 s.1.2.1 s.1.2.2 (.list 6 .nr [[(pI x11a), (pS x11b), (pI x11c), (pS x11d), (pI x11e), (.raw (.slice s17 s17n s17c))]]) u_1 fun s22 s22n s22c u_2 =>
        next ((s22, s22n, s22c), (IntKind.wrap .i64 (s.2 + (1)))) u_2)
      (next ((s.1.1, s.1.2.1, s.1.2.2), (IntKind.wrap .i64 (s.2 + (1)))) u))
    (R (.raw (.slice s.1.1 s.1.2.1 s.1.2.2)) u))
  ((none, 0, 0), (0)) u0

theorem G_alpha_still_s.ok (a0f : Fl) (a0 : List (List PV)) (u0 : Mem) (R : PV → Mem → Prop) : G_alpha_still_s.sh a0f a0 u0 R = VF ⟨Try.prog, 25, [5], [(3, ⟨[(3, .one (.raw .slice)), (8, .one (.raw (.int .i64)))], []⟩)], [], [], [], [], [2, 3, 17, 19, 22, 24]⟩ ((Try.f32.body).getD .skip) [.tmp 2] [(.list 6 a0f a0)] u0 R := by kernel_rfl

theorem G_alpha_still_s.c {a0f : Fl} {a0 : List (List PV)} {u0 : Mem} {K : PV → Mem → Prop} (h : G_alpha_still_s.sh a0f a0 u0 K) : CallP Try.prog 32 [(.list 6 a0f a0)] u0 K :=
  VF_sound (E := ⟨Try.prog, 25, [5], [(3, ⟨[(3, .one (.raw .slice)), (8, .one (.raw (.int .i64)))], []⟩)], [], [], [], [], [2, 3, 17, 19, 22, 24]⟩) (rs := [.tmp 2]) Try.func32 rfl rfl rfl (by kernel_rfl) (by kernel_rfl) (G_alpha_still_s.ok a0f a0 u0 K ▸ h)


/-- ponder/ponderref10.bare -/
def G_ponderref10_bare.sh (a0f : Fl) (a0 : List (List PV)) (u0 : Mem) (R : PV → Mem → Prop) : Prop :=
  LoopI (α := (Fl × List (List PV)) × Int) (fun next s u =>
    CIf (decide ((s.2 : Int) < ((List.length a0 : Nat) : Int)))
    ((0 : Int) ≤ s.2 ∧ ∃ (r14 : List PV), (a0)[Int.toNat s.2]? = some r14 ∧
      ∃ (x16 : ByteArray), rowM r14 1 1 = some [(pS x16)] ∧
      CIf (strEq x16 ⟨#[]⟩)
      ((0 : Int) ≤ s.2 ∧ ∃ (r20 : List PV), (a0)[Int.toNat s.2]? = some r20 ∧
        ∃ (x21a : Int), ∃ (x21b : ByteArray), ∃ (x21c : Int), ∃ (x21d : ByteArray), ∃ (x21e : Int), ∃ (x21ff : Fl) (x21f : List (List PV)), rowM r20 0 6 = some [(pI x21a), (pS x21b), (pI x21c), (pS x21d), (pI x21e), (.list 3 x21ff x21f)] ∧
        (0 : Int) ≤ s.2 ∧ ∃ (r24 : List PV), (a0)[Int.toNat s.2]? = some r24 ∧
        ∃ (x26f : Fl) (x26 : List (List PV)), rowM r24 5 1 = some [(.list 3 x26f x26)] ∧
        appL false 3 32 .nil [] x26 u fun f27 u_1 =>
        appL false 6 80 s.1.1 s.1.2 [[(pI x21a), (pS x21b), (pI x21c), (pS x21d), (pI x21e), (.list 3 .sh ([] ++ x26))]] u_1 fun f32 u_2 =>
        next ((f32, (s.1.2 ++ [[(pI x21a), (pS x21b), (pI x21c), (pS x21d), (pI x21e), (.list 3 .sh ([] ++ x26))]])), (IntKind.wrap .i64 (s.2 + (1)))) u_2)
      (next ((s.1.1, s.1.2), (IntKind.wrap .i64 (s.2 + (1)))) u))
    (R (.list 6 s.1.1 s.1.2) u))
  ((.nil, []), (0)) u0

theorem G_ponderref10_bare.ok (a0f : Fl) (a0 : List (List PV)) (u0 : Mem) (R : PV → Mem → Prop) : G_ponderref10_bare.sh a0f a0 u0 R = VF ⟨Try.prog, 34, [5], [(3, ⟨[(3, .one (.list 6)), (4, .one (.raw (.int .i64)))], []⟩)], [], [], [], [], []⟩ ((Try.f33.body).getD .skip) [.tmp 2] [(.list 6 a0f a0)] u0 R := by kernel_rfl

theorem G_ponderref10_bare.c {a0f : Fl} {a0 : List (List PV)} {u0 : Mem} {K : PV → Mem → Prop} (h : G_ponderref10_bare.sh a0f a0 u0 K) : CallP Try.prog 33 [(.list 6 a0f a0)] u0 K :=
  VF_sound (E := ⟨Try.prog, 34, [5], [(3, ⟨[(3, .one (.list 6)), (4, .one (.raw (.int .i64)))], []⟩)], [], [], [], [], []⟩) (rs := [.tmp 2]) Try.func33 rfl rfl rfl (by kernel_rfl) (by kernel_rfl) (G_ponderref10_bare.ok a0f a0 u0 K ▸ h)


/-- ponder/ponderkeep.Tests -/
def G_ponderkeep_Tests.sh (a0f : Fl) (a0 : List (List PV)) (a1f : Fl) (a1 : List (List PV)) (u0 : Mem) (R : PV → Mem → Prop) : Prop :=
  CIf ((((List.length a0 : Nat) : Int) : Int) != ((List.length a1 : Nat) : Int))
  (R (pB false) u0)
  (LoopI (α := Int) (fun next s u =>
      CIf (decide ((s : Int) < ((List.length a0 : Nat) : Int)))
      ((0 : Int) ≤ s ∧ ∃ (r19 : List PV), (a0)[Int.toNat s]? = some r19 ∧
        ∃ (x21 : Int), rowM r19 0 1 = some [(pI x21)] ∧
        (0 : Int) ≤ s ∧ ∃ (r24 : List PV), (a1)[Int.toNat s]? = some r24 ∧
        ∃ (x26 : Int), rowM r24 0 1 = some [(pI x26)] ∧
        CIf ((x21 : Int) != x26)
        (R (pB false) u)
        ((0 : Int) ≤ s ∧ ∃ (r31 : List PV), (a0)[Int.toNat s]? = some r31 ∧
          ∃ (x33 : ByteArray), rowM r31 1 1 = some [(pS x33)] ∧
          (0 : Int) ≤ s ∧ ∃ (r36 : List PV), (a1)[Int.toNat s]? = some r36 ∧
          ∃ (x38 : ByteArray), rowM r36 1 1 = some [(pS x38)] ∧
          CIf (!strEq x33 x38)
          (R (pB false) u)
          ((0 : Int) ≤ s ∧ ∃ (r44 : List PV), (a0)[Int.toNat s]? = some r44 ∧
            ∃ (x46a : Int), ∃ (x46b : ByteArray), ∃ (x46c : Int), rowM r44 2 3 = some [(pI x46a), (pS x46b), (pI x46c)] ∧
            (0 : Int) ≤ s ∧ ∃ (r49 : List PV), (a1)[Int.toNat s]? = some r49 ∧
            ∃ (x51a : Int), ∃ (x51b : ByteArray), ∃ (x51c : Int), rowM r49 2 3 = some [(pI x51a), (pS x51b), (pI x51c)] ∧
            CIf (!((x46a == x51a) && (strEq x46b x51b && ((x46c == x51c) && true))))
            (R (pB false) u)
            ((0 : Int) ≤ s ∧ ∃ (r57 : List PV), (a0)[Int.toNat s]? = some r57 ∧
              ∃ (x59f : Fl) (x59 : List (List PV)), rowM r57 5 1 = some [(.list 3 x59f x59)] ∧
              (0 : Int) ≤ s ∧ ∃ (r62 : List PV), (a1)[Int.toNat s]? = some r62 ∧
              ∃ (x64f : Fl) (x64 : List (List PV)), rowM r62 5 1 = some [(.list 3 x64f x64)] ∧
              CallP Try.prog 56 [(.list 3 x59f x59), (.list 3 x64f x64)] u fun v u_1 =>
              ∃ (x65 : Bool), v = (pB x65) ∧
              CIf (!x65)
              (R (pB false) u_1)
              (next (IntKind.wrap .i64 (s + (1))) u_1)))))
      (R (pB true) u))
    (0) u0)

theorem G_ponderkeep_Tests.ok (a0f : Fl) (a0 : List (List PV)) (a1f : Fl) (a1 : List (List PV)) (u0 : Mem) (R : PV → Mem → Prop) : G_ponderkeep_Tests.sh a0f a0 a1f a1 u0 R = VF ⟨Try.prog, 68, [], [(4, ⟨[(5, .one (.raw (.int .i64)))], []⟩)], [], [], [], [], []⟩ ((Try.f34.body).getD .skip) [.tmp 4] [(.list 6 a0f a0), (.list 6 a1f a1)] u0 R := by kernel_rfl

theorem G_ponderkeep_Tests.c {a0f : Fl} {a0 : List (List PV)} {a1f : Fl} {a1 : List (List PV)} {u0 : Mem} {K : PV → Mem → Prop} (h : G_ponderkeep_Tests.sh a0f a0 a1f a1 u0 K) : CallP Try.prog 34 [(.list 6 a0f a0), (.list 6 a1f a1)] u0 K :=
  VF_sound (E := ⟨Try.prog, 68, [], [(4, ⟨[(5, .one (.raw (.int .i64)))], []⟩)], [], [], [], [], []⟩) (rs := [.tmp 4]) Try.func34 rfl rfl rfl (by kernel_rfl) (by kernel_rfl) (G_ponderkeep_Tests.ok a0f a0 a1f a1 u0 K ▸ h)


/-- ponder/ponderkeep.Conds -/
def G_ponderkeep_Conds.sh (a0f : Fl) (a0 : List (List PV)) (a1f : Fl) (a1 : List (List PV)) (u0 : Mem) (R : PV → Mem → Prop) : Prop :=
  CIf ((((List.length a0 : Nat) : Int) : Int) != ((List.length a1 : Nat) : Int))
  (R (pB false) u0)
  (LoopI (α := Int) (fun next s u =>
      CIf (decide ((s : Int) < ((List.length a0 : Nat) : Int)))
      ((0 : Int) ≤ s ∧ ∃ (r19 : List PV), (a0)[Int.toNat s]? = some r19 ∧
        ∃ (x20a : Int), ∃ (x20b : Bool), ∃ (x20c : ByteArray), ∃ (x20df : Fl) (x20d : List (List PV)), ∃ (x20ef : Fl) (x20e : List (List PV)), ∃ (x20f : Bool), ∃ (x20gf : Fl) (x20g : List (List PV)), rowM r19 0 7 = some [(pI x20a), (pB x20b), (pS x20c), (.list 6 x20df x20d), (.list 6 x20ef x20e), (pB x20f), (.list 7 x20gf x20g)] ∧
        (0 : Int) ≤ s ∧ ∃ (r23 : List PV), (a1)[Int.toNat s]? = some r23 ∧
        ∃ (x24a : Int), ∃ (x24b : Bool), ∃ (x24c : ByteArray), ∃ (x24df : Fl) (x24d : List (List PV)), ∃ (x24ef : Fl) (x24e : List (List PV)), ∃ (x24f : Bool), ∃ (x24gf : Fl) (x24g : List (List PV)), rowM r23 0 7 = some [(pI x24a), (pB x24b), (pS x24c), (.list 6 x24df x24d), (.list 6 x24ef x24e), (pB x24f), (.list 7 x24gf x24g)] ∧
        CallP Try.prog 13 [(.agg [(pI x20a), (pB x20b), (pS x20c), (.list 6 .sh x20d), (.list 6 .sh x20e), (pB x20f), (.list 7 .sh x20g)]), (.agg [(pI x24a), (pB x24b), (pS x24c), (.list 6 .sh x24d), (.list 6 .sh x24e), (pB x24f), (.list 7 .sh x24g)])] u fun v u_1 =>
        ∃ (x25 : Bool), v = (pB x25) ∧
        CIf (!x25)
        (R (pB false) u_1)
        (next (IntKind.wrap .i64 (s + (1))) u_1))
      (R (pB true) u))
    (0) u0)

theorem G_ponderkeep_Conds.ok (a0f : Fl) (a0 : List (List PV)) (a1f : Fl) (a1 : List (List PV)) (u0 : Mem) (R : PV → Mem → Prop) : G_ponderkeep_Conds.sh a0f a0 a1f a1 u0 R = VF ⟨Try.prog, 27, [], [(4, ⟨[(5, .one (.raw (.int .i64)))], []⟩)], [], [], [], [], []⟩ ((Try.f35.body).getD .skip) [.tmp 4] [(.list 7 a0f a0), (.list 7 a1f a1)] u0 R := by kernel_rfl

theorem G_ponderkeep_Conds.c {a0f : Fl} {a0 : List (List PV)} {a1f : Fl} {a1 : List (List PV)} {u0 : Mem} {K : PV → Mem → Prop} (h : G_ponderkeep_Conds.sh a0f a0 a1f a1 u0 K) : CallP Try.prog 35 [(.list 7 a0f a0), (.list 7 a1f a1)] u0 K :=
  VF_sound (E := ⟨Try.prog, 27, [], [(4, ⟨[(5, .one (.raw (.int .i64)))], []⟩)], [], [], [], [], []⟩) (rs := [.tmp 4]) Try.func35 rfl rfl rfl (by kernel_rfl) (by kernel_rfl) (G_ponderkeep_Conds.ok a0f a0 a1f a1 u0 K ▸ h)


/-- ponder/book.New[ponder/alpha.number,ponder/api.Elem] -/
def G_book_New_alpha_number_api_Elem.sh  (u0 : Mem) (R : PV → Mem → Prop) : Prop :=
  CallP Try.prog 57 [(.list 13 .nil [])] u0 fun v u =>
  ∃ (x1 : Option Addr), v = (.raw (.pointer x1)) ∧
  ∀ (b3 : Nat), u b3 = none →
  R (pP b3 0) (Mem.set u b3 (some (.cells 107 [(.raw (.pointer x1))])))

theorem G_book_New_alpha_number_api_Elem.ok  (u0 : Mem) (R : PV → Mem → Prop) : G_book_New_alpha_number_api_Elem.sh  u0 R = VF ⟨Try.prog, 4, [], [], [], [], [], [], []⟩ ((Try.f36.body).getD .skip) [.tmp 0] [] u0 R := by kernel_rfl

theorem G_book_New_alpha_number_api_Elem.c  {u0 : Mem} {K : PV → Mem → Prop} (h : G_book_New_alpha_number_api_Elem.sh  u0 K) : CallP Try.prog 36 [] u0 K :=
  VF_sound (E := ⟨Try.prog, 4, [], [], [], [], [], [], []⟩) (rs := [.tmp 0]) Try.func36 rfl rfl rfl (by kernel_rfl) (by kernel_rfl) (G_book_New_alpha_number_api_Elem.ok  u0 K ▸ h)


/-- ponder/book.New[ponder/alpha.number,ponder/alpha.memory] -/
def G_book_New_alpha_number_alpha_memory.sh  (u0 : Mem) (R : PV → Mem → Prop) : Prop :=
  CallP Try.prog 58 [(.list 10 .nil [])] u0 fun v u =>
  ∃ (x1 : Option Addr), v = (.raw (.pointer x1)) ∧
  ∀ (b3 : Nat), u b3 = none →
  R (pP b3 0) (Mem.set u b3 (some (.cells 113 [(.raw (.pointer x1))])))

theorem G_book_New_alpha_number_alpha_memory.ok  (u0 : Mem) (R : PV → Mem → Prop) : G_book_New_alpha_number_alpha_memory.sh  u0 R = VF ⟨Try.prog, 4, [], [], [], [], [], [], []⟩ ((Try.f37.body).getD .skip) [.tmp 0] [] u0 R := by kernel_rfl

theorem G_book_New_alpha_number_alpha_memory.c  {u0 : Mem} {K : PV → Mem → Prop} (h : G_book_New_alpha_number_alpha_memory.sh  u0 K) : CallP Try.prog 37 [] u0 K :=
  VF_sound (E := ⟨Try.prog, 4, [], [], [], [], [], [], []⟩) (rs := [.tmp 0]) Try.func37 rfl rfl rfl (by kernel_rfl) (by kernel_rfl) (G_book_New_alpha_number_alpha_memory.ok  u0 K ▸ h)


/-- (*ponder/book.Map[ponder/alpha.number, ponder/alpha.memory]).All -/
def G_book_Map_alpha_number_alpha_memory_All.sh (a0 : Option Addr) (u0 : Mem) (R : PV → Mem → Prop) : Prop :=
  R (.fn (.func 59) [] [(.fptr [(.raw (.pointer a0))] 0)]) u0

theorem G_book_Map_alpha_number_alpha_memory_All.ok (a0 : Option Addr) (u0 : Mem) (R : PV → Mem → Prop) : G_book_Map_alpha_number_alpha_memory_All.sh a0 u0 R = VF ⟨Try.prog, 4, [], [], [], [], [1], [], []⟩ ((Try.f38.body).getD .skip) [.tmp 2] [(.raw (.pointer a0))] u0 R := by kernel_rfl

theorem G_book_Map_alpha_number_alpha_memory_All.c {a0 : Option Addr} {u0 : Mem} {K : PV → Mem → Prop} (h : G_book_Map_alpha_number_alpha_memory_All.sh a0 u0 K) : CallP Try.prog 38 [(.raw (.pointer a0))] u0 K :=
  VF_sound (E := ⟨Try.prog, 4, [], [], [], [], [1], [], []⟩) (rs := [.tmp 2]) Try.func38 rfl rfl rfl (by kernel_rfl) (by kernel_rfl) (G_book_Map_alpha_number_alpha_memory_All.ok a0 u0 K ▸ h)


/-- ponder/alpha.same -/
def G_alpha_same.sh (a0f : Fl) (a0 : List (List PV)) (a1f : Fl) (a1 : List (List PV)) (u0 : Mem) (R : PV → Mem → Prop) : Prop :=
  CIf ((((List.length a0 : Nat) : Int) : Int) != ((List.length a1 : Nat) : Int))
  (R (pB false) u0)
  (LoopI (α := Int) (fun next s u =>
      CIf (decide ((s : Int) < ((List.length a0 : Nat) : Int)))
      ((0 : Int) ≤ s ∧ ∃ (r20 : List PV), (a0)[Int.toNat s]? = some r20 ∧
        ∃ (x21a : Int), ∃ (x21b : ByteArray), ∃ (x21c : Int), ∃ (x21d : ByteArray), ∃ (x21e : Int), ∃ (x21ff : Fl) (x21f : List (List PV)), rowM r20 0 6 = some [(pI x21a), (pS x21b), (pI x21c), (pS x21d), (pI x21e), (.list 3 x21ff x21f)] ∧
        (0 : Int) ≤ s ∧ ∃ (r24 : List PV), (a1)[Int.toNat s]? = some r24 ∧
        ∃ (x25a : Int), ∃ (x25b : ByteArray), ∃ (x25c : Int), ∃ (x25d : ByteArray), ∃ (x25e : Int), ∃ (x25ff : Fl) (x25f : List (List PV)), rowM r24 0 6 = some [(pI x25a), (pS x25b), (pI x25c), (pS x25d), (pI x25e), (.list 3 x25ff x25f)] ∧
        CIf ((x21a : Int) != x25a)
        (R (pB false) u)
        (CIf (!strEq x21b x25b)
          (R (pB false) u)
          (CIf (!((x21c == x25c) && (strEq x21d x25d && ((x21e == x25e) && true))))
            (R (pB false) u)
            (CIf ((((List.length x21f : Nat) : Int) : Int) != ((List.length x25f : Nat) : Int))
              (R (pB false) u)
              (LoopI (α := Int) (fun next_1 s_1 u_1 =>
                  CIf (decide ((s_1 : Int) < ((List.length x21f : Nat) : Int)))
                  ((0 : Int) ≤ s_1 ∧ ∃ (r60 : List PV), (x21f)[Int.toNat s_1]? = some r60 ∧
                    ∃ (x61a : Int), ∃ (x61b : ByteArray), ∃ (x61c : Int), rowM r60 0 3 = some [(pI x61a), (pS x61b), (pI x61c)] ∧
                    (0 : Int) ≤ s_1 ∧ ∃ (r66 : List PV), (x25f)[Int.toNat s_1]? = some r66 ∧
                    ∃ (x67a : Int), ∃ (x67b : ByteArray), ∃ (x67c : Int), rowM r66 0 3 = some [(pI x67a), (pS x67b), (pI x67c)] ∧
                    CIf (!((x61a == x67a) && (strEq x61b x67b && ((x61c == x67c) && true))))
                    (R (pB false) u_1)
                    (next_1 (IntKind.wrap .i64 (s_1 + (1))) u_1))
                  (next (IntKind.wrap .i64 (s + (1))) u_1))
                (0) u)))))
      (R (pB true) u))
    (0) u0)

theorem G_alpha_same.ok (a0f : Fl) (a0 : List (List PV)) (a1f : Fl) (a1 : List (List PV)) (u0 : Mem) (R : PV → Mem → Prop) : G_alpha_same.sh a0f a0 a1f a1 u0 R = VF ⟨Try.prog, 71, [6, 7, 9], [(4, ⟨[(17, .one (.raw (.int .i64)))], []⟩), (10, ⟨[(57, .one (.raw (.int .i64)))], []⟩)], [], [], [], [], []⟩ ((Try.f39.body).getD .skip) [.tmp 4] [(.list 6 a0f a0), (.list 6 a1f a1)] u0 R := by kernel_rfl

theorem G_alpha_same.c {a0f : Fl} {a0 : List (List PV)} {a1f : Fl} {a1 : List (List PV)} {u0 : Mem} {K : PV → Mem → Prop} (h : G_alpha_same.sh a0f a0 a1f a1 u0 K) : CallP Try.prog 39 [(.list 6 a0f a0), (.list 6 a1f a1)] u0 K :=
  VF_sound (E := ⟨Try.prog, 71, [6, 7, 9], [(4, ⟨[(17, .one (.raw (.int .i64)))], []⟩), (10, ⟨[(57, .one (.raw (.int .i64)))], []⟩)], [], [], [], [], []⟩) (rs := [.tmp 4]) Try.func39 rfl rfl rfl (by kernel_rfl) (by kernel_rfl) (G_alpha_same.ok a0f a0 a1f a1 u0 K ▸ h)


/-- (*ponder/book.Map[ponder/alpha.number, ponder/alpha.memory]).Put -/
def G_book_Map_alpha_number_alpha_memory_Put.sh (a0 : Option Addr) (a1 : Int) (a2a : Int) (a2b : Bool) (a2c : ByteArray) (a2df : Fl) (a2d : List (List PV)) (a2ef : Fl) (a2e : List (List PV)) (a2f : Bool) (a2gf : Fl) (a2g : List (List PV)) (a2h : Int) (a2i : Option Addr) (u0 : Mem) (R : PV → Mem → Prop) : Prop :=
  CIf (Option.isNone a0)
  (R (pB false) u0)
  (CJoin (α := Option Addr × Bool) (fun J =>
      nn a0
      (withPtrP (.raw (.pointer a0)) fun b o =>
        ∃ (x15 : Option Addr), rdM u0 b o 1 = some [(.raw (.pointer x15))] ∧
        (CallQ Try.prog 62 [(pI a1)] u0 fun v u_1 =>
          ∃ (x17a : Int), ∃ (x17b : Int), ∃ (x17c : Bool), ∃ (x17d : ByteArray), ∃ (x17ef : Fl) (x17e : List (List PV)), ∃ (x17ff : Fl) (x17f : List (List PV)), ∃ (x17g : Bool), ∃ (x17hf : Fl) (x17h : List (List PV)), ∃ (x17i : Int), ∃ (x17j : Option Addr), v = (.agg [(pI x17a), (pI x17b), (pB x17c), (pS x17d), (.list 6 x17ef x17e), (.list 6 x17ff x17f), (pB x17g), (.list 7 x17hf x17h), (pI x17i), (.raw (.pointer x17j))]) ∧
          (CallP Try.prog 61 [(.raw (.pointer x15)), (.agg [(pI x17a), (pI x17b), (pB x17c), (pS x17d), (.list 6 .sh x17e), (.list 6 .sh x17f), (pB x17g), (.list 7 .sh x17h), (pI x17i), (.raw (.pointer x17j))])] (Mem.or u0 u_1) fun v_1 u_2 =>
            ∃ (x18pa : Int), ∃ (x18pb : Int), ∃ (x18pc : Bool), ∃ (x18pd : ByteArray), ∃ (x18pef : Fl) (x18pe : List (List PV)), ∃ (x18pff : Fl) (x18pf : List (List PV)), ∃ (x18pg : Bool), ∃ (x18phf : Fl) (x18ph : List (List PV)), ∃ (x18pi : Int), ∃ (x18pj : Option Addr), ∃ (x18q : Bool), v_1 = (.tup [(.agg [(pI x18pa), (pI x18pb), (pB x18pc), (pS x18pd), (.list 6 x18pef x18pe), (.list 6 x18pff x18pf), (pB x18pg), (.list 7 x18phf x18ph), (pI x18pi), (.raw (.pointer x18pj))]), (pB x18q)]) ∧
            ∀ (b7 : Nat), u_2 b7 = none →
            stM b7 0 [(pI x18pa), (pI x18pb), (pB x18pc), (pS x18pd), (.list 6 x18pef x18pe), (.list 6 x18pff x18pf), (pB x18pg), (.list 7 x18phf x18ph), (pI x18pi), (.raw (.pointer x18pj))] (Mem.set u_2 b7 (some (.cells 111 [(pI (0)), (pI (0)), (pB false), (pS ⟨#[]⟩), (.list 6 .nil []), (.list 6 .nil []), (pB false), (.list 7 .nil []), (pI (0)), (.raw (.pointer none))]))) fun u_3 =>
            J ((some ⟨b7, 0, none⟩), x18q) u_3) ∧
          (∀ (b7_1 : Nat), (Mem.or u0 u_1) b7_1 = none →
            CallP Try.prog 61 [(.raw (.pointer x15)), (.agg [(pI x17a), (pI x17b), (pB x17c), (pS x17d), (.list 6 .sh x17e), (.list 6 .sh x17f), (pB x17g), (.list 7 .sh x17h), (pI x17i), (.raw (.pointer x17j))])] (Mem.set (Mem.or u0 u_1) b7_1 (some (.cells 111 [(pI (0)), (pI (0)), (pB false), (pS ⟨#[]⟩), (.list 6 .nil []), (.list 6 .nil []), (pB false), (.list 7 .nil []), (pI (0)), (.raw (.pointer none))]))) fun v_2 u_4 =>
            ∃ (x18pa_1 : Int), ∃ (x18pb_1 : Int), ∃ (x18pc_1 : Bool), ∃ (x18pd_1 : ByteArray), ∃ (x18pe_1f : Fl) (x18pe_1 : List (List PV)), ∃ (x18pf_1f : Fl) (x18pf_1 : List (List PV)), ∃ (x18pg_1 : Bool), ∃ (x18ph_1f : Fl) (x18ph_1 : List (List PV)), ∃ (x18pi_1 : Int), ∃ (x18pj_1 : Option Addr), ∃ (x18q_1 : Bool), v_2 = (.tup [(.agg [(pI x18pa_1), (pI x18pb_1), (pB x18pc_1), (pS x18pd_1), (.list 6 x18pe_1f x18pe_1), (.list 6 x18pf_1f x18pf_1), (pB x18pg_1), (.list 7 x18ph_1f x18ph_1), (pI x18pi_1), (.raw (.pointer x18pj_1))]), (pB x18q_1)]) ∧
            stM b7_1 0 [(pI x18pa_1), (pI x18pb_1), (pB x18pc_1), (pS x18pd_1), (.list 6 x18pe_1f x18pe_1), (.list 6 x18pf_1f x18pf_1), (pB x18pg_1), (.list 7 x18ph_1f x18ph_1), (pI x18pi_1), (.raw (.pointer x18pj_1))] u_4 fun u_5 =>
            J ((some ⟨b7_1, 0, none⟩), x18q_1) u_5)) ∧
        (∀ (b7_2 : Nat), u0 b7_2 = none →
          CallQ Try.prog 62 [(pI a1)] (Mem.set u0 b7_2 (some (.cells 111 [(pI (0)), (pI (0)), (pB false), (pS ⟨#[]⟩), (.list 6 .nil []), (.list 6 .nil []), (pB false), (.list 7 .nil []), (pI (0)), (.raw (.pointer none))]))) fun v_3 u_6 =>
          ∃ (x17a_1 : Int), ∃ (x17b_1 : Int), ∃ (x17c_1 : Bool), ∃ (x17d_1 : ByteArray), ∃ (x17e_1f : Fl) (x17e_1 : List (List PV)), ∃ (x17f_1f : Fl) (x17f_1 : List (List PV)), ∃ (x17g_1 : Bool), ∃ (x17h_1f : Fl) (x17h_1 : List (List PV)), ∃ (x17i_1 : Int), ∃ (x17j_1 : Option Addr), v_3 = (.agg [(pI x17a_1), (pI x17b_1), (pB x17c_1), (pS x17d_1), (.list 6 x17e_1f x17e_1), (.list 6 x17f_1f x17f_1), (pB x17g_1), (.list 7 x17h_1f x17h_1), (pI x17i_1), (.raw (.pointer x17j_1))]) ∧
          CallP Try.prog 61 [(.raw (.pointer x15)), (.agg [(pI x17a_1), (pI x17b_1), (pB x17c_1), (pS x17d_1), (.list 6 .sh x17e_1), (.list 6 .sh x17f_1), (pB x17g_1), (.list 7 .sh x17h_1), (pI x17i_1), (.raw (.pointer x17j_1))])] (Mem.or (Mem.set u0 b7_2 (some (.cells 111 [(pI (0)), (pI (0)), (pB false), (pS ⟨#[]⟩), (.list 6 .nil []), (.list 6 .nil []), (pB false), (.list 7 .nil []), (pI (0)), (.raw (.pointer none))]))) u_6) fun v_4 u_7 =>
          ∃ (x18pa_2 : Int), ∃ (x18pb_2 : Int), ∃ (x18pc_2 : Bool), ∃ (x18pd_2 : ByteArray), ∃ (x18pe_2f : Fl) (x18pe_2 : List (List PV)), ∃ (x18pf_2f : Fl) (x18pf_2 : List (List PV)), ∃ (x18pg_2 : Bool), ∃ (x18ph_2f : Fl) (x18ph_2 : List (List PV)), ∃ (x18pi_2 : Int), ∃ (x18pj_2 : Option Addr), ∃ (x18q_2 : Bool), v_4 = (.tup [(.agg [(pI x18pa_2), (pI x18pb_2), (pB x18pc_2), (pS x18pd_2), (.list 6 x18pe_2f x18pe_2), (.list 6 x18pf_2f x18pf_2), (pB x18pg_2), (.list 7 x18ph_2f x18ph_2), (pI x18pi_2), (.raw (.pointer x18pj_2))]), (pB x18q_2)]) ∧
          stM b7_2 0 [(pI x18pa_2), (pI x18pb_2), (pB x18pc_2), (pS x18pd_2), (.list 6 x18pe_2f x18pe_2), (.list 6 x18pf_2f x18pf_2), (pB x18pg_2), (.list 7 x18ph_2f x18ph_2), (pI x18pi_2), (.raw (.pointer x18pj_2))] u_7 fun u_8 =>
          J ((some ⟨b7_2, 0, none⟩), x18q_2) u_8)))
    (fun s u =>
      CIf (!s.2)
      (nn a0
        (withPtrP (.raw (.pointer a0)) fun b_1 o_1 =>
          ∃ (x26 : Option Addr), rdM u b_1 o_1 1 = some [(.raw (.pointer x26))] ∧
          CallP Try.prog 63 [(.raw (.pointer x26)), (.agg [(pI a1), (pI a2a), (pB a2b), (pS a2c), (.list 6 .sh a2d), (.list 6 .sh a2e), (pB a2f), (.list 7 .sh a2g), (pI a2h), (.raw (.pointer a2i))])] u fun v_5 u_9 =>
          ∃ (x30 : Bool), v_5 = (pB x30) ∧
          R (pB x30) u_9))
      (nn a0
        (withPtrP (.raw (.pointer a0)) fun b_2 o_2 =>
          ∃ (x34 : Option Addr), rdM u b_2 o_2 1 = some [(.raw (.pointer x34))] ∧
          withPtrP (.raw (.pointer s.1)) fun b_3 o_3 =>
          ∃ (x35a : Int), ∃ (x35b : Int), ∃ (x35c : Bool), ∃ (x35d : ByteArray), ∃ (x35ef : Fl) (x35e : List (List PV)), ∃ (x35ff : Fl) (x35f : List (List PV)), ∃ (x35g : Bool), ∃ (x35hf : Fl) (x35h : List (List PV)), ∃ (x35i : Int), ∃ (x35j : Option Addr), rdM u b_3 o_3 10 = some [(pI x35a), (pI x35b), (pB x35c), (pS x35d), (.list 6 x35ef x35e), (.list 6 x35ff x35f), (pB x35g), (.list 7 x35hf x35h), (pI x35i), (.raw (.pointer x35j))] ∧
          CallP Try.prog 64 [(.raw (.pointer x34)), (.agg [(pI x35a), (pI x35b), (pB x35c), (pS x35d), (.list 6 .sh x35e), (.list 6 .sh x35f), (pB x35g), (.list 7 .sh x35h), (pI x35i), (.raw (.pointer x35j))])] u fun v_6 u_10 =>
          ∃ (x36 : Bool), v_6 = (pB x36) ∧
          nn a0
          (withPtrP (.raw (.pointer a0)) fun b_4 o_4 =>
            ∃ (x40 : Option Addr), rdM u_10 b_4 o_4 1 = some [(.raw (.pointer x40))] ∧
            withPtrP (.raw (.pointer s.1)) fun b_5 o_5 =>
            ∃ (x42 : Int), rdM u_10 b_5 o_5 1 = some [(pI x42)] ∧
            CallP Try.prog 63 [(.raw (.pointer x40)), (.agg [(pI x42), (pI a2a), (pB a2b), (pS a2c), (.list 6 .sh a2d), (.list 6 .sh a2e), (pB a2f), (.list 7 .sh a2g), (pI a2h), (.raw (.pointer a2i))])] u_10 fun v_7 u_11 =>
            ∃ (x45 : Bool), v_7 = (pB x45) ∧
            R (pB false) u_11)))))

theorem G_book_Map_alpha_number_alpha_memory_Put.ok (a0 : Option Addr) (a1 : Int) (a2a : Int) (a2b : Bool) (a2c : ByteArray) (a2df : Fl) (a2d : List (List PV)) (a2ef : Fl) (a2e : List (List PV)) (a2f : Bool) (a2gf : Fl) (a2g : List (List PV)) (a2h : Int) (a2i : Option Addr) (u0 : Mem) (R : PV → Mem → Prop) : G_book_Map_alpha_number_alpha_memory_Put.sh a0 a1 a2a a2b a2c a2df a2d a2ef a2e a2f a2gf a2g a2h a2i u0 R = VF ⟨Try.prog, 46, [5], [], [(4, ⟨[(7, .one (.raw .ptr)), (8, .one (.raw .bool))], []⟩)], [], [], [], []⟩ ((Try.f40.body).getD .skip) [.tmp 6] [(.raw (.pointer a0)), (pI a1), (.agg [(pI a2a), (pB a2b), (pS a2c), (.list 6 a2df a2d), (.list 6 a2ef a2e), (pB a2f), (.list 7 a2gf a2g), (pI a2h), (.raw (.pointer a2i))])] u0 R := by kernel_rfl

theorem G_book_Map_alpha_number_alpha_memory_Put.c {a0 : Option Addr} {a1 : Int} {a2a : Int} {a2b : Bool} {a2c : ByteArray} {a2df : Fl} {a2d : List (List PV)} {a2ef : Fl} {a2e : List (List PV)} {a2f : Bool} {a2gf : Fl} {a2g : List (List PV)} {a2h : Int} {a2i : Option Addr} {u0 : Mem} {K : PV → Mem → Prop} (h : G_book_Map_alpha_number_alpha_memory_Put.sh a0 a1 a2a a2b a2c a2df a2d a2ef a2e a2f a2gf a2g a2h a2i u0 K) : CallP Try.prog 40 [(.raw (.pointer a0)), (pI a1), (.agg [(pI a2a), (pB a2b), (pS a2c), (.list 6 a2df a2d), (.list 6 a2ef a2e), (pB a2f), (.list 7 a2gf a2g), (pI a2h), (.raw (.pointer a2i))])] u0 K :=
  VF_sound (E := ⟨Try.prog, 46, [5], [], [(4, ⟨[(7, .one (.raw .ptr)), (8, .one (.raw .bool))], []⟩)], [], [], [], []⟩) (rs := [.tmp 6]) Try.func40 rfl rfl rfl (by kernel_rfl) (by kernel_rfl) (G_book_Map_alpha_number_alpha_memory_Put.ok a0 a1 a2a a2b a2c a2df a2d a2ef a2e a2f a2gf a2g a2h a2i u0 K ▸ h)


/-- ponder/order.New[ponder/alpha.tagged] -/
def G_order_New_alpha_tagged.sh (a0f : Fl) (a0 : List (List PV)) (u0 : Mem) (R : PV → Mem → Prop) : Prop :=
  ∀ (b7 : Nat), u0 b7 = none →
  LoopI (α := Int) (fun next s u =>
    CIf (decide ((s : Int) < ((List.length a0 : Nat) : Int)))
    ((0 : Int) ≤ s ∧ ∃ (r12 : List PV), (a0)[Int.toNat s]? = some r12 ∧
      ∃ (x13a : Int), ∃ (x13b : ByteArray), ∃ (x13c : Int), ∃ (x13d : Int), ∃ (x13e : ByteArray), ∃ (x13f : Int), ∃ (x13g : Int), ∃ (x13h : ByteArray), ∃ (x13i : Int), ∃ (x13j : Bool), ∃ (x13k : Bool), ∃ (x13l : Int), rowM r12 0 12 = some [(pI x13a), (pS x13b), (pI x13c), (pI x13d), (pS x13e), (pI x13f), (pI x13g), (pS x13h), (pI x13i), (pB x13j), (pB x13k), (pI x13l)] ∧
      CallP Try.prog 44 [(pP b7 0), (.agg [(pI x13a), (pS x13b), (pI x13c), (pI x13d), (pS x13e), (pI x13f), (pI x13g), (pS x13h), (pI x13i), (pB x13j), (pB x13k), (pI x13l)])] u fun v u_1 =>
      ∃ (x16 : Bool), v = (pB x16) ∧
      next (IntKind.wrap .i64 (s + (1))) u_1)
    (R (pP b7 0) u))
  (0) (Mem.set u0 b7 (some (.cells 123 [(.list 12 .nil []), (pB false)])))

theorem G_order_New_alpha_tagged.ok (a0f : Fl) (a0 : List (List PV)) (u0 : Mem) (R : PV → Mem → Prop) : G_order_New_alpha_tagged.sh a0f a0 u0 R = VF ⟨Try.prog, 19, [5], [(3, ⟨[(10, .one (.raw (.int .i64)))], []⟩)], [], [], [], [], []⟩ ((Try.f41.body).getD .skip) [.tmp 2] [(.list 12 a0f a0)] u0 R := by kernel_rfl

theorem G_order_New_alpha_tagged.c {a0f : Fl} {a0 : List (List PV)} {u0 : Mem} {K : PV → Mem → Prop} (h : G_order_New_alpha_tagged.sh a0f a0 u0 K) : CallP Try.prog 41 [(.list 12 a0f a0)] u0 K :=
  VF_sound (E := ⟨Try.prog, 19, [5], [(3, ⟨[(10, .one (.raw (.int .i64)))], []⟩)], [], [], [], [], []⟩) (rs := [.tmp 2]) Try.func41 rfl rfl rfl (by kernel_rfl) (by kernel_rfl) (G_order_New_alpha_tagged.ok a0f a0 u0 K ▸ h)


/-- (*ponder/book.Map[ponder/alpha.number, ponder/api.Elem]).All -/
def G_book_Map_alpha_number_api_Elem_All.sh (a0 : Option Addr) (u0 : Mem) (R : PV → Mem → Prop) : Prop :=
  R (.fn (.func 65) [] [(.fptr [(.raw (.pointer a0))] 0)]) u0

theorem G_book_Map_alpha_number_api_Elem_All.ok (a0 : Option Addr) (u0 : Mem) (R : PV → Mem → Prop) : G_book_Map_alpha_number_api_Elem_All.sh a0 u0 R = VF ⟨Try.prog, 4, [], [], [], [], [1], [], []⟩ ((Try.f42.body).getD .skip) [.tmp 2] [(.raw (.pointer a0))] u0 R := by kernel_rfl

theorem G_book_Map_alpha_number_api_Elem_All.c {a0 : Option Addr} {u0 : Mem} {K : PV → Mem → Prop} (h : G_book_Map_alpha_number_api_Elem_All.sh a0 u0 K) : CallP Try.prog 42 [(.raw (.pointer a0))] u0 K :=
  VF_sound (E := ⟨Try.prog, 4, [], [], [], [], [1], [], []⟩) (rs := [.tmp 2]) Try.func42 rfl rfl rfl (by kernel_rfl) (by kernel_rfl) (G_book_Map_alpha_number_api_Elem_All.ok a0 u0 K ▸ h)


/-- ponder/alpha.meets -/
def G_alpha_meets.sh (a0a : Int) (a0b : Bool) (a0c : ByteArray) (a0df : Fl) (a0d : List (List PV)) (a0ef : Fl) (a0e : List (List PV)) (a0f : Bool) (a0gf : Fl) (a0g : List (List PV)) (a1a : Int) (a1b : ByteArray) (a1c : Int) (a1d : Int) (a1e : ByteArray) (a1f : Int) (a1g : Int) (a1h : ByteArray) (a1i : Int) (a1j : Bool) (a1k : Bool) (a1l : Int) (u0 : Mem) (R : PV → Mem → Prop) : Prop :=
  CallP Try.prog 67 [(.agg [(pI a0a), (pB a0b), (pS ⟨#[120]⟩), (.list 6 .sh a0d), (.list 6 .sh a0e), (pB a0f), (.list 7 .sh a0g)]), (.agg [(pI a1a), (pS a1b), (pI a1c), (pI a1d), (pS a1e), (pI a1f), (pI a1g), (pS a1h), (pI a1i), (pB a1j), (pB a1k), (pI a1l)]), (.list 4 .nil [])] u0 fun v u =>
  ∃ (x11pf : Fl) (x11p : List (List PV)), ∃ (x11q : Bool), v = (.tup [(.list 4 x11pf x11p), (pB x11q)]) ∧
  R (pB x11q) u

theorem G_alpha_meets.ok (a0a : Int) (a0b : Bool) (a0c : ByteArray) (a0df : Fl) (a0d : List (List PV)) (a0ef : Fl) (a0e : List (List PV)) (a0f : Bool) (a0gf : Fl) (a0g : List (List PV)) (a1a : Int) (a1b : ByteArray) (a1c : Int) (a1d : Int) (a1e : ByteArray) (a1f : Int) (a1g : Int) (a1h : ByteArray) (a1i : Int) (a1j : Bool) (a1k : Bool) (a1l : Int) (u0 : Mem) (R : PV → Mem → Prop) : G_alpha_meets.sh a0a a0b a0c a0df a0d a0ef a0e a0f a0gf a0g a1a a1b a1c a1d a1e a1f a1g a1h a1i a1j a1k a1l u0 R = VF ⟨Try.prog, 15, [2, 3], [], [], [], [], [], []⟩ ((Try.f43.body).getD .skip) [.tmp 4] [(.agg [(pI a0a), (pB a0b), (pS a0c), (.list 6 a0df a0d), (.list 6 a0ef a0e), (pB a0f), (.list 7 a0gf a0g)]), (.agg [(pI a1a), (pS a1b), (pI a1c), (pI a1d), (pS a1e), (pI a1f), (pI a1g), (pS a1h), (pI a1i), (pB a1j), (pB a1k), (pI a1l)])] u0 R := by kernel_rfl

theorem G_alpha_meets.c {a0a : Int} {a0b : Bool} {a0c : ByteArray} {a0df : Fl} {a0d : List (List PV)} {a0ef : Fl} {a0e : List (List PV)} {a0f : Bool} {a0gf : Fl} {a0g : List (List PV)} {a1a : Int} {a1b : ByteArray} {a1c : Int} {a1d : Int} {a1e : ByteArray} {a1f : Int} {a1g : Int} {a1h : ByteArray} {a1i : Int} {a1j : Bool} {a1k : Bool} {a1l : Int} {u0 : Mem} {K : PV → Mem → Prop} (h : G_alpha_meets.sh a0a a0b a0c a0df a0d a0ef a0e a0f a0gf a0g a1a a1b a1c a1d a1e a1f a1g a1h a1i a1j a1k a1l u0 K) : CallP Try.prog 43 [(.agg [(pI a0a), (pB a0b), (pS a0c), (.list 6 a0df a0d), (.list 6 a0ef a0e), (pB a0f), (.list 7 a0gf a0g)]), (.agg [(pI a1a), (pS a1b), (pI a1c), (pI a1d), (pS a1e), (pI a1f), (pI a1g), (pS a1h), (pI a1i), (pB a1j), (pB a1k), (pI a1l)])] u0 K :=
  VF_sound (E := ⟨Try.prog, 15, [2, 3], [], [], [], [], [], []⟩) (rs := [.tmp 4]) Try.func43 rfl rfl rfl (by kernel_rfl) (by kernel_rfl) (G_alpha_meets.ok a0a a0b a0c a0df a0d a0ef a0e a0f a0gf a0g a1a a1b a1c a1d a1e a1f a1g a1h a1i a1j a1k a1l u0 K ▸ h)


/-- (*ponder/order.Set[ponder/alpha.tagged]).Put -/
def G_order_Set_alpha_tagged_Put.sh (a0 : Option Addr) (a1a : Int) (a1b : ByteArray) (a1c : Int) (a1d : Int) (a1e : ByteArray) (a1f : Int) (a1g : Int) (a1h : ByteArray) (a1i : Int) (a1j : Bool) (a1k : Bool) (a1l : Int) (u0 : Mem) (R : PV → Mem → Prop) : Prop :=
  CIf (Option.isNone a0)
  (R (pB false) u0)
  (CallP Try.prog 68 [(.raw (.pointer a0)), (.agg [(pI a1a), (pS a1b), (pI a1c), (pI a1d), (pS a1e), (pI a1f), (pI a1g), (pS a1h), (pI a1i), (pB a1j), (pB a1k), (pI a1l)])] u0 fun v u =>
    ∃ (x13p : Int), ∃ (x13q : Bool), v = (.tup [(pI x13p), (pB x13q)]) ∧
    CIf x13q
    (R (pB false) u)
    (CallP Try.prog 69 [(.raw (.pointer a0))] u fun v_1 u_1 =>
       v_1 = (.tup []) ∧
      nn a0
      (withPtrP (.raw (.pointer a0)) fun b o =>
        ∃ (x23 : Option Addr) (x23n x23c : Nat), rdM u_1 b o 1 = some [(.raw (.slice x23 x23n x23c))] ∧
        appR 12 112 85 x23 x23n x23c (.list 12 .nr [[(pI a1a), (pS a1b), (pI a1c), (pI a1d), (pS a1e), (pI a1f), (pI a1g), (pS a1h), (pI a1i), (pB a1j), (pB a1k), (pI a1l)]]) u_1 fun s26 s26n s26c u_2 =>
        nn a0
        (withPtrP (.raw (.pointer a0)) fun b_1 o_1 =>
          stM b_1 o_1 [(.raw (.slice s26 s26n s26c))] u_2 fun u_3 =>
          nn a0
          (withPtrP (.raw (.pointer a0)) fun b_2 o_2 =>
            ∃ (x32 : Option Addr) (x32n x32c : Nat), rdM u_3 b_2 o_2 1 = some [(.raw (.slice x32 x32n x32c))] ∧
            LoopI (α := Int) (fun next s u_4 =>
              CIf (decide ((s : Int) > x13p))
              (nn a0
                (withPtrP (.raw (.pointer a0)) fun b_3 o_3 =>
                  ∃ (x43 : Option Addr) (x43n x43c : Nat), rdM u_4 b_3 o_3 1 = some [(.raw (.slice x43 x43n x43c))] ∧
                  nn a0
                  (withPtrP (.raw (.pointer a0)) fun b_4 o_4 =>
                    ∃ (x48 : Option Addr) (x48n x48c : Nat), rdM u_4 b_4 o_4 1 = some [(.raw (.slice x48 x48n x48c))] ∧
                    withSl x48 fun b_5 o_5 =>
                    (0 : Int) ≤ (IntKind.wrap .i64 (s - (1))) ∧ (IntKind.wrap .i64 (s - (1))) < ((x48n : Nat) : Int) ∧
                    ∃ (x52a : Int), ∃ (x52b : ByteArray), ∃ (x52c : Int), ∃ (x52d : Int), ∃ (x52e : ByteArray), ∃ (x52f : Int), ∃ (x52g : Int), ∃ (x52h : ByteArray), ∃ (x52i : Int), ∃ (x52j : Bool), ∃ (x52k : Bool), ∃ (x52l : Int), rdM u_4 b_5 (o_5 + Int.toNat (IntKind.wrap .i64 (s - (1))) * 12) 12 = some [(pI x52a), (pS x52b), (pI x52c), (pI x52d), (pS x52e), (pI x52f), (pI x52g), (pS x52h), (pI x52i), (pB x52j), (pB x52k), (pI x52l)] ∧
                    withSl x43 fun b_6 o_6 =>
                    (0 : Int) ≤ s ∧ s < ((x43n : Nat) : Int) ∧
                    stM b_6 (o_6 + Int.toNat s * 12) [(pI x52a), (pS x52b), (pI x52c), (pI x52d), (pS x52e), (pI x52f), (pI x52g), (pS x52h), (pI x52i), (pB x52j), (pB x52k), (pI x52l)] u_4 fun u_5 =>
                    next (IntKind.wrap .i64 (s - (1))) u_5)))
              (nn a0
                (withPtrP (.raw (.pointer a0)) fun b_7 o_7 =>
                  ∃ (x57 : Option Addr) (x57n x57c : Nat), rdM u_4 b_7 o_7 1 = some [(.raw (.slice x57 x57n x57c))] ∧
                  withSl x57 fun b_8 o_8 =>
                  (0 : Int) ≤ x13p ∧ x13p < ((x57n : Nat) : Int) ∧
                  stM b_8 (o_8 + Int.toNat x13p * 12) [(pI a1a), (pS a1b), (pI a1c), (pI a1d), (pS a1e), (pI a1f), (pI a1g), (pS a1h), (pI a1i), (pB a1j), (pB a1k), (pI a1l)] u_4 fun u_6 =>
                  R (pB true) u_6)))
            (IntKind.wrap .i64 (((x32n : Nat) : Int) - (1))) u_3)))))

theorem G_order_Set_alpha_tagged_Put.ok (a0 : Option Addr) (a1a : Int) (a1b : ByteArray) (a1c : Int) (a1d : Int) (a1e : ByteArray) (a1f : Int) (a1g : Int) (a1h : ByteArray) (a1i : Int) (a1j : Bool) (a1k : Bool) (a1l : Int) (u0 : Mem) (R : PV → Mem → Prop) : G_order_Set_alpha_tagged_Put.sh a0 a1a a1b a1c a1d a1e a1f a1g a1h a1i a1j a1k a1l u0 R = VF ⟨Try.prog, 61, [3], [(9, ⟨[(7, .one (.raw (.int .i64)))], []⟩)], [], [], [], [], [23, 32, 43, 48, 57]⟩ ((Try.f44.body).getD .skip) [.tmp 4] [(.raw (.pointer a0)), (.agg [(pI a1a), (pS a1b), (pI a1c), (pI a1d), (pS a1e), (pI a1f), (pI a1g), (pS a1h), (pI a1i), (pB a1j), (pB a1k), (pI a1l)])] u0 R := by kernel_rfl

theorem G_order_Set_alpha_tagged_Put.c {a0 : Option Addr} {a1a : Int} {a1b : ByteArray} {a1c : Int} {a1d : Int} {a1e : ByteArray} {a1f : Int} {a1g : Int} {a1h : ByteArray} {a1i : Int} {a1j : Bool} {a1k : Bool} {a1l : Int} {u0 : Mem} {K : PV → Mem → Prop} (h : G_order_Set_alpha_tagged_Put.sh a0 a1a a1b a1c a1d a1e a1f a1g a1h a1i a1j a1k a1l u0 K) : CallP Try.prog 44 [(.raw (.pointer a0)), (.agg [(pI a1a), (pS a1b), (pI a1c), (pI a1d), (pS a1e), (pI a1f), (pI a1g), (pS a1h), (pI a1i), (pB a1j), (pB a1k), (pI a1l)])] u0 K :=
  VF_sound (E := ⟨Try.prog, 61, [3], [(9, ⟨[(7, .one (.raw (.int .i64)))], []⟩)], [], [], [], [], [23, 32, 43, 48, 57]⟩) (rs := [.tmp 4]) Try.func44 rfl rfl rfl (by kernel_rfl) (by kernel_rfl) (G_order_Set_alpha_tagged_Put.ok a0 a1a a1b a1c a1d a1e a1f a1g a1h a1i a1j a1k a1l u0 K ▸ h)


/-- (*ponder/book.Map[ponder/alpha.number, ponder/alpha.memory]).Get -/
def G_book_Map_alpha_number_alpha_memory_Get.sh (a0 : Option Addr) (a1 : Int) (u0 : Mem) (R : PV → Mem → Prop) : Prop :=
  CIf (Option.isNone a0)
  (R (.tup [(.agg [(pI (0)), (pB false), (pS ⟨#[]⟩), (.list 6 .nil []), (.list 6 .nil []), (pB false), (.list 7 .nil []), (pI (0)), (.raw (.pointer none))]), (pB false)]) u0)
  (CJoin (α := Option Addr × Bool) (fun J =>
      nn a0
      (withPtrP (.raw (.pointer a0)) fun b o =>
        ∃ (x16 : Option Addr), rdM u0 b o 1 = some [(.raw (.pointer x16))] ∧
        (CallQ Try.prog 62 [(pI a1)] u0 fun v u_1 =>
          ∃ (x18a : Int), ∃ (x18b : Int), ∃ (x18c : Bool), ∃ (x18d : ByteArray), ∃ (x18ef : Fl) (x18e : List (List PV)), ∃ (x18ff : Fl) (x18f : List (List PV)), ∃ (x18g : Bool), ∃ (x18hf : Fl) (x18h : List (List PV)), ∃ (x18i : Int), ∃ (x18j : Option Addr), v = (.agg [(pI x18a), (pI x18b), (pB x18c), (pS x18d), (.list 6 x18ef x18e), (.list 6 x18ff x18f), (pB x18g), (.list 7 x18hf x18h), (pI x18i), (.raw (.pointer x18j))]) ∧
          (CallP Try.prog 61 [(.raw (.pointer x16)), (.agg [(pI x18a), (pI x18b), (pB x18c), (pS x18d), (.list 6 .sh x18e), (.list 6 .sh x18f), (pB x18g), (.list 7 .sh x18h), (pI x18i), (.raw (.pointer x18j))])] (Mem.or u0 u_1) fun v_1 u_2 =>
            ∃ (x19pa : Int), ∃ (x19pb : Int), ∃ (x19pc : Bool), ∃ (x19pd : ByteArray), ∃ (x19pef : Fl) (x19pe : List (List PV)), ∃ (x19pff : Fl) (x19pf : List (List PV)), ∃ (x19pg : Bool), ∃ (x19phf : Fl) (x19ph : List (List PV)), ∃ (x19pi : Int), ∃ (x19pj : Option Addr), ∃ (x19q : Bool), v_1 = (.tup [(.agg [(pI x19pa), (pI x19pb), (pB x19pc), (pS x19pd), (.list 6 x19pef x19pe), (.list 6 x19pff x19pf), (pB x19pg), (.list 7 x19phf x19ph), (pI x19pi), (.raw (.pointer x19pj))]), (pB x19q)]) ∧
            ∀ (b7 : Nat), u_2 b7 = none →
            stM b7 0 [(pI x19pa), (pI x19pb), (pB x19pc), (pS x19pd), (.list 6 x19pef x19pe), (.list 6 x19pff x19pf), (pB x19pg), (.list 7 x19phf x19ph), (pI x19pi), (.raw (.pointer x19pj))] (Mem.set u_2 b7 (some (.cells 111 [(pI (0)), (pI (0)), (pB false), (pS ⟨#[]⟩), (.list 6 .nil []), (.list 6 .nil []), (pB false), (.list 7 .nil []), (pI (0)), (.raw (.pointer none))]))) fun u_3 =>
            J ((some ⟨b7, 0, none⟩), x19q) u_3) ∧
          (∀ (b7_1 : Nat), (Mem.or u0 u_1) b7_1 = none →
            CallP Try.prog 61 [(.raw (.pointer x16)), (.agg [(pI x18a), (pI x18b), (pB x18c), (pS x18d), (.list 6 .sh x18e), (.list 6 .sh x18f), (pB x18g), (.list 7 .sh x18h), (pI x18i), (.raw (.pointer x18j))])] (Mem.set (Mem.or u0 u_1) b7_1 (some (.cells 111 [(pI (0)), (pI (0)), (pB false), (pS ⟨#[]⟩), (.list 6 .nil []), (.list 6 .nil []), (pB false), (.list 7 .nil []), (pI (0)), (.raw (.pointer none))]))) fun v_2 u_4 =>
            ∃ (x19pa_1 : Int), ∃ (x19pb_1 : Int), ∃ (x19pc_1 : Bool), ∃ (x19pd_1 : ByteArray), ∃ (x19pe_1f : Fl) (x19pe_1 : List (List PV)), ∃ (x19pf_1f : Fl) (x19pf_1 : List (List PV)), ∃ (x19pg_1 : Bool), ∃ (x19ph_1f : Fl) (x19ph_1 : List (List PV)), ∃ (x19pi_1 : Int), ∃ (x19pj_1 : Option Addr), ∃ (x19q_1 : Bool), v_2 = (.tup [(.agg [(pI x19pa_1), (pI x19pb_1), (pB x19pc_1), (pS x19pd_1), (.list 6 x19pe_1f x19pe_1), (.list 6 x19pf_1f x19pf_1), (pB x19pg_1), (.list 7 x19ph_1f x19ph_1), (pI x19pi_1), (.raw (.pointer x19pj_1))]), (pB x19q_1)]) ∧
            stM b7_1 0 [(pI x19pa_1), (pI x19pb_1), (pB x19pc_1), (pS x19pd_1), (.list 6 x19pe_1f x19pe_1), (.list 6 x19pf_1f x19pf_1), (pB x19pg_1), (.list 7 x19ph_1f x19ph_1), (pI x19pi_1), (.raw (.pointer x19pj_1))] u_4 fun u_5 =>
            J ((some ⟨b7_1, 0, none⟩), x19q_1) u_5)) ∧
        (∀ (b7_2 : Nat), u0 b7_2 = none →
          CallQ Try.prog 62 [(pI a1)] (Mem.set u0 b7_2 (some (.cells 111 [(pI (0)), (pI (0)), (pB false), (pS ⟨#[]⟩), (.list 6 .nil []), (.list 6 .nil []), (pB false), (.list 7 .nil []), (pI (0)), (.raw (.pointer none))]))) fun v_3 u_6 =>
          ∃ (x18a_1 : Int), ∃ (x18b_1 : Int), ∃ (x18c_1 : Bool), ∃ (x18d_1 : ByteArray), ∃ (x18e_1f : Fl) (x18e_1 : List (List PV)), ∃ (x18f_1f : Fl) (x18f_1 : List (List PV)), ∃ (x18g_1 : Bool), ∃ (x18h_1f : Fl) (x18h_1 : List (List PV)), ∃ (x18i_1 : Int), ∃ (x18j_1 : Option Addr), v_3 = (.agg [(pI x18a_1), (pI x18b_1), (pB x18c_1), (pS x18d_1), (.list 6 x18e_1f x18e_1), (.list 6 x18f_1f x18f_1), (pB x18g_1), (.list 7 x18h_1f x18h_1), (pI x18i_1), (.raw (.pointer x18j_1))]) ∧
          CallP Try.prog 61 [(.raw (.pointer x16)), (.agg [(pI x18a_1), (pI x18b_1), (pB x18c_1), (pS x18d_1), (.list 6 .sh x18e_1), (.list 6 .sh x18f_1), (pB x18g_1), (.list 7 .sh x18h_1), (pI x18i_1), (.raw (.pointer x18j_1))])] (Mem.or (Mem.set u0 b7_2 (some (.cells 111 [(pI (0)), (pI (0)), (pB false), (pS ⟨#[]⟩), (.list 6 .nil []), (.list 6 .nil []), (pB false), (.list 7 .nil []), (pI (0)), (.raw (.pointer none))]))) u_6) fun v_4 u_7 =>
          ∃ (x19pa_2 : Int), ∃ (x19pb_2 : Int), ∃ (x19pc_2 : Bool), ∃ (x19pd_2 : ByteArray), ∃ (x19pe_2f : Fl) (x19pe_2 : List (List PV)), ∃ (x19pf_2f : Fl) (x19pf_2 : List (List PV)), ∃ (x19pg_2 : Bool), ∃ (x19ph_2f : Fl) (x19ph_2 : List (List PV)), ∃ (x19pi_2 : Int), ∃ (x19pj_2 : Option Addr), ∃ (x19q_2 : Bool), v_4 = (.tup [(.agg [(pI x19pa_2), (pI x19pb_2), (pB x19pc_2), (pS x19pd_2), (.list 6 x19pe_2f x19pe_2), (.list 6 x19pf_2f x19pf_2), (pB x19pg_2), (.list 7 x19ph_2f x19ph_2), (pI x19pi_2), (.raw (.pointer x19pj_2))]), (pB x19q_2)]) ∧
          stM b7_2 0 [(pI x19pa_2), (pI x19pb_2), (pB x19pc_2), (pS x19pd_2), (.list 6 x19pe_2f x19pe_2), (.list 6 x19pf_2f x19pf_2), (pB x19pg_2), (.list 7 x19ph_2f x19ph_2), (pI x19pi_2), (.raw (.pointer x19pj_2))] u_7 fun u_8 =>
          J ((some ⟨b7_2, 0, none⟩), x19q_2) u_8)))
    (fun s u =>
      withPtrP (.raw (.pointer s.1)) fun b_1 o_1 =>
      ∃ (x23a : Int), ∃ (x23b : Bool), ∃ (x23c : ByteArray), ∃ (x23df : Fl) (x23d : List (List PV)), ∃ (x23ef : Fl) (x23e : List (List PV)), ∃ (x23f : Bool), ∃ (x23gf : Fl) (x23g : List (List PV)), ∃ (x23h : Int), ∃ (x23i : Option Addr), rdM u b_1 (o_1 + 1) 9 = some [(pI x23a), (pB x23b), (pS x23c), (.list 6 x23df x23d), (.list 6 x23ef x23e), (pB x23f), (.list 7 x23gf x23g), (pI x23h), (.raw (.pointer x23i))] ∧
      R (.tup [(.agg [(pI x23a), (pB x23b), (pS x23c), (.list 6 x23df x23d), (.list 6 x23ef x23e), (pB x23f), (.list 7 x23gf x23g), (pI x23h), (.raw (.pointer x23i))]), (pB s.2)]) u))

theorem G_book_Map_alpha_number_alpha_memory_Get.ok (a0 : Option Addr) (a1 : Int) (u0 : Mem) (R : PV → Mem → Prop) : G_book_Map_alpha_number_alpha_memory_Get.sh a0 a1 u0 R = VF ⟨Try.prog, 25, [4, 6], [], [(5, ⟨[(7, .one (.raw .ptr)), (8, .one (.raw .bool))], []⟩)], [], [], [], []⟩ ((Try.f45.body).getD .skip) [.cell 4 77, .tmp 5] [(.raw (.pointer a0)), (pI a1)] u0 R := by kernel_rfl

theorem G_book_Map_alpha_number_alpha_memory_Get.c {a0 : Option Addr} {a1 : Int} {u0 : Mem} {K : PV → Mem → Prop} (h : G_book_Map_alpha_number_alpha_memory_Get.sh a0 a1 u0 K) : CallP Try.prog 45 [(.raw (.pointer a0)), (pI a1)] u0 K :=
  VF_sound (E := ⟨Try.prog, 25, [4, 6], [], [(5, ⟨[(7, .one (.raw .ptr)), (8, .one (.raw .bool))], []⟩)], [], [], [], []⟩) (rs := [.cell 4 77, .tmp 5]) Try.func45 rfl rfl rfl (by kernel_rfl) (by kernel_rfl) (G_book_Map_alpha_number_alpha_memory_Get.ok a0 a1 u0 K ▸ h)


/-- (*ponder/book.Map[ponder/alpha.number, ponder/alpha.memory]).Drop -/
def G_book_Map_alpha_number_alpha_memory_Drop.sh (a0 : Option Addr) (a1 : Int) (u0 : Mem) (R : PV → Mem → Prop) : Prop :=
  CIf (Option.isNone a0)
  (R (.tup [(.agg [(pI (0)), (pB false), (pS ⟨#[]⟩), (.list 6 .nil []), (.list 6 .nil []), (pB false), (.list 7 .nil []), (pI (0)), (.raw (.pointer none))]), (pB false)]) u0)
  (CJoin (α := Option Addr × Bool) (fun J =>
      nn a0
      (withPtrP (.raw (.pointer a0)) fun b o =>
        ∃ (x16 : Option Addr), rdM u0 b o 1 = some [(.raw (.pointer x16))] ∧
        (CallQ Try.prog 62 [(pI a1)] u0 fun v u_1 =>
          ∃ (x18a : Int), ∃ (x18b : Int), ∃ (x18c : Bool), ∃ (x18d : ByteArray), ∃ (x18ef : Fl) (x18e : List (List PV)), ∃ (x18ff : Fl) (x18f : List (List PV)), ∃ (x18g : Bool), ∃ (x18hf : Fl) (x18h : List (List PV)), ∃ (x18i : Int), ∃ (x18j : Option Addr), v = (.agg [(pI x18a), (pI x18b), (pB x18c), (pS x18d), (.list 6 x18ef x18e), (.list 6 x18ff x18f), (pB x18g), (.list 7 x18hf x18h), (pI x18i), (.raw (.pointer x18j))]) ∧
          (CallP Try.prog 61 [(.raw (.pointer x16)), (.agg [(pI x18a), (pI x18b), (pB x18c), (pS x18d), (.list 6 .sh x18e), (.list 6 .sh x18f), (pB x18g), (.list 7 .sh x18h), (pI x18i), (.raw (.pointer x18j))])] (Mem.or u0 u_1) fun v_1 u_2 =>
            ∃ (x19pa : Int), ∃ (x19pb : Int), ∃ (x19pc : Bool), ∃ (x19pd : ByteArray), ∃ (x19pef : Fl) (x19pe : List (List PV)), ∃ (x19pff : Fl) (x19pf : List (List PV)), ∃ (x19pg : Bool), ∃ (x19phf : Fl) (x19ph : List (List PV)), ∃ (x19pi : Int), ∃ (x19pj : Option Addr), ∃ (x19q : Bool), v_1 = (.tup [(.agg [(pI x19pa), (pI x19pb), (pB x19pc), (pS x19pd), (.list 6 x19pef x19pe), (.list 6 x19pff x19pf), (pB x19pg), (.list 7 x19phf x19ph), (pI x19pi), (.raw (.pointer x19pj))]), (pB x19q)]) ∧
            ∀ (b7 : Nat), u_2 b7 = none →
            stM b7 0 [(pI x19pa), (pI x19pb), (pB x19pc), (pS x19pd), (.list 6 x19pef x19pe), (.list 6 x19pff x19pf), (pB x19pg), (.list 7 x19phf x19ph), (pI x19pi), (.raw (.pointer x19pj))] (Mem.set u_2 b7 (some (.cells 111 [(pI (0)), (pI (0)), (pB false), (pS ⟨#[]⟩), (.list 6 .nil []), (.list 6 .nil []), (pB false), (.list 7 .nil []), (pI (0)), (.raw (.pointer none))]))) fun u_3 =>
            J ((some ⟨b7, 0, none⟩), x19q) u_3) ∧
          (∀ (b7_1 : Nat), (Mem.or u0 u_1) b7_1 = none →
            CallP Try.prog 61 [(.raw (.pointer x16)), (.agg [(pI x18a), (pI x18b), (pB x18c), (pS x18d), (.list 6 .sh x18e), (.list 6 .sh x18f), (pB x18g), (.list 7 .sh x18h), (pI x18i), (.raw (.pointer x18j))])] (Mem.set (Mem.or u0 u_1) b7_1 (some (.cells 111 [(pI (0)), (pI (0)), (pB false), (pS ⟨#[]⟩), (.list 6 .nil []), (.list 6 .nil []), (pB false), (.list 7 .nil []), (pI (0)), (.raw (.pointer none))]))) fun v_2 u_4 =>
            ∃ (x19pa_1 : Int), ∃ (x19pb_1 : Int), ∃ (x19pc_1 : Bool), ∃ (x19pd_1 : ByteArray), ∃ (x19pe_1f : Fl) (x19pe_1 : List (List PV)), ∃ (x19pf_1f : Fl) (x19pf_1 : List (List PV)), ∃ (x19pg_1 : Bool), ∃ (x19ph_1f : Fl) (x19ph_1 : List (List PV)), ∃ (x19pi_1 : Int), ∃ (x19pj_1 : Option Addr), ∃ (x19q_1 : Bool), v_2 = (.tup [(.agg [(pI x19pa_1), (pI x19pb_1), (pB x19pc_1), (pS x19pd_1), (.list 6 x19pe_1f x19pe_1), (.list 6 x19pf_1f x19pf_1), (pB x19pg_1), (.list 7 x19ph_1f x19ph_1), (pI x19pi_1), (.raw (.pointer x19pj_1))]), (pB x19q_1)]) ∧
            stM b7_1 0 [(pI x19pa_1), (pI x19pb_1), (pB x19pc_1), (pS x19pd_1), (.list 6 x19pe_1f x19pe_1), (.list 6 x19pf_1f x19pf_1), (pB x19pg_1), (.list 7 x19ph_1f x19ph_1), (pI x19pi_1), (.raw (.pointer x19pj_1))] u_4 fun u_5 =>
            J ((some ⟨b7_1, 0, none⟩), x19q_1) u_5)) ∧
        (∀ (b7_2 : Nat), u0 b7_2 = none →
          CallQ Try.prog 62 [(pI a1)] (Mem.set u0 b7_2 (some (.cells 111 [(pI (0)), (pI (0)), (pB false), (pS ⟨#[]⟩), (.list 6 .nil []), (.list 6 .nil []), (pB false), (.list 7 .nil []), (pI (0)), (.raw (.pointer none))]))) fun v_3 u_6 =>
          ∃ (x18a_1 : Int), ∃ (x18b_1 : Int), ∃ (x18c_1 : Bool), ∃ (x18d_1 : ByteArray), ∃ (x18e_1f : Fl) (x18e_1 : List (List PV)), ∃ (x18f_1f : Fl) (x18f_1 : List (List PV)), ∃ (x18g_1 : Bool), ∃ (x18h_1f : Fl) (x18h_1 : List (List PV)), ∃ (x18i_1 : Int), ∃ (x18j_1 : Option Addr), v_3 = (.agg [(pI x18a_1), (pI x18b_1), (pB x18c_1), (pS x18d_1), (.list 6 x18e_1f x18e_1), (.list 6 x18f_1f x18f_1), (pB x18g_1), (.list 7 x18h_1f x18h_1), (pI x18i_1), (.raw (.pointer x18j_1))]) ∧
          CallP Try.prog 61 [(.raw (.pointer x16)), (.agg [(pI x18a_1), (pI x18b_1), (pB x18c_1), (pS x18d_1), (.list 6 .sh x18e_1), (.list 6 .sh x18f_1), (pB x18g_1), (.list 7 .sh x18h_1), (pI x18i_1), (.raw (.pointer x18j_1))])] (Mem.or (Mem.set u0 b7_2 (some (.cells 111 [(pI (0)), (pI (0)), (pB false), (pS ⟨#[]⟩), (.list 6 .nil []), (.list 6 .nil []), (pB false), (.list 7 .nil []), (pI (0)), (.raw (.pointer none))]))) u_6) fun v_4 u_7 =>
          ∃ (x19pa_2 : Int), ∃ (x19pb_2 : Int), ∃ (x19pc_2 : Bool), ∃ (x19pd_2 : ByteArray), ∃ (x19pe_2f : Fl) (x19pe_2 : List (List PV)), ∃ (x19pf_2f : Fl) (x19pf_2 : List (List PV)), ∃ (x19pg_2 : Bool), ∃ (x19ph_2f : Fl) (x19ph_2 : List (List PV)), ∃ (x19pi_2 : Int), ∃ (x19pj_2 : Option Addr), ∃ (x19q_2 : Bool), v_4 = (.tup [(.agg [(pI x19pa_2), (pI x19pb_2), (pB x19pc_2), (pS x19pd_2), (.list 6 x19pe_2f x19pe_2), (.list 6 x19pf_2f x19pf_2), (pB x19pg_2), (.list 7 x19ph_2f x19ph_2), (pI x19pi_2), (.raw (.pointer x19pj_2))]), (pB x19q_2)]) ∧
          stM b7_2 0 [(pI x19pa_2), (pI x19pb_2), (pB x19pc_2), (pS x19pd_2), (.list 6 x19pe_2f x19pe_2), (.list 6 x19pf_2f x19pf_2), (pB x19pg_2), (.list 7 x19ph_2f x19ph_2), (pI x19pi_2), (.raw (.pointer x19pj_2))] u_7 fun u_8 =>
          J ((some ⟨b7_2, 0, none⟩), x19q_2) u_8)))
    (fun s u =>
      CJoin (α := Unit) (fun J_1 =>
        CIf s.2
        (nn a0
          (withPtrP (.raw (.pointer a0)) fun b_1 o_1 =>
            ∃ (x26 : Option Addr), rdM u b_1 o_1 1 = some [(.raw (.pointer x26))] ∧
            withPtrP (.raw (.pointer s.1)) fun b_2 o_2 =>
            ∃ (x27a : Int), ∃ (x27b : Int), ∃ (x27c : Bool), ∃ (x27d : ByteArray), ∃ (x27ef : Fl) (x27e : List (List PV)), ∃ (x27ff : Fl) (x27f : List (List PV)), ∃ (x27g : Bool), ∃ (x27hf : Fl) (x27h : List (List PV)), ∃ (x27i : Int), ∃ (x27j : Option Addr), rdM u b_2 o_2 10 = some [(pI x27a), (pI x27b), (pB x27c), (pS x27d), (.list 6 x27ef x27e), (.list 6 x27ff x27f), (pB x27g), (.list 7 x27hf x27h), (pI x27i), (.raw (.pointer x27j))] ∧
            CallP Try.prog 64 [(.raw (.pointer x26)), (.agg [(pI x27a), (pI x27b), (pB x27c), (pS x27d), (.list 6 .sh x27e), (.list 6 .sh x27f), (pB x27g), (.list 7 .sh x27h), (pI x27i), (.raw (.pointer x27j))])] u fun v_5 u_10 =>
            ∃ (x28 : Bool), v_5 = (pB x28) ∧
            J_1 () u_10))
        (J_1 () u))
      (fun s_1 u_9 =>
        withPtrP (.raw (.pointer s.1)) fun b_3 o_3 =>
        ∃ (x30a : Int), ∃ (x30b : Bool), ∃ (x30c : ByteArray), ∃ (x30df : Fl) (x30d : List (List PV)), ∃ (x30ef : Fl) (x30e : List (List PV)), ∃ (x30f : Bool), ∃ (x30gf : Fl) (x30g : List (List PV)), ∃ (x30h : Int), ∃ (x30i : Option Addr), rdM u_9 b_3 (o_3 + 1) 9 = some [(pI x30a), (pB x30b), (pS x30c), (.list 6 x30df x30d), (.list 6 x30ef x30e), (pB x30f), (.list 7 x30gf x30g), (pI x30h), (.raw (.pointer x30i))] ∧
        R (.tup [(.agg [(pI x30a), (pB x30b), (pS x30c), (.list 6 x30df x30d), (.list 6 x30ef x30e), (pB x30f), (.list 7 x30gf x30g), (pI x30h), (.raw (.pointer x30i))]), (pB s.2)]) u_9)))

theorem G_book_Map_alpha_number_alpha_memory_Drop.ok (a0 : Option Addr) (a1 : Int) (u0 : Mem) (R : PV → Mem → Prop) : G_book_Map_alpha_number_alpha_memory_Drop.sh a0 a1 u0 R = VF ⟨Try.prog, 32, [4, 6], [], [(5, ⟨[(7, .one (.raw .ptr)), (8, .one (.raw .bool))], []⟩), (7, ⟨[], []⟩)], [], [], [], []⟩ ((Try.f46.body).getD .skip) [.cell 4 77, .tmp 5] [(.raw (.pointer a0)), (pI a1)] u0 R := by kernel_rfl

theorem G_book_Map_alpha_number_alpha_memory_Drop.c {a0 : Option Addr} {a1 : Int} {u0 : Mem} {K : PV → Mem → Prop} (h : G_book_Map_alpha_number_alpha_memory_Drop.sh a0 a1 u0 K) : CallP Try.prog 46 [(.raw (.pointer a0)), (pI a1)] u0 K :=
  VF_sound (E := ⟨Try.prog, 32, [4, 6], [], [(5, ⟨[(7, .one (.raw .ptr)), (8, .one (.raw .bool))], []⟩), (7, ⟨[], []⟩)], [], [], [], []⟩) (rs := [.cell 4 77, .tmp 5]) Try.func46 rfl rfl rfl (by kernel_rfl) (by kernel_rfl) (G_book_Map_alpha_number_alpha_memory_Drop.ok a0 a1 u0 K ▸ h)


/-- (*ponder/book.Map[ponder/alpha.number, ponder/alpha.memory]).Len -/
def G_book_Map_alpha_number_alpha_memory_Len.sh (a0 : Option Addr) (u0 : Mem) (R : PV → Mem → Prop) : Prop :=
  CIf (Option.isNone a0)
  (R (pI (0)) u0)
  (nn a0
    (withPtrP (.raw (.pointer a0)) fun b o =>
      ∃ (x8 : Option Addr), rdM u0 b o 1 = some [(.raw (.pointer x8))] ∧
      CallP Try.prog 70 [(.raw (.pointer x8))] u0 fun v u =>
      ∃ (x9 : Int), v = (pI x9) ∧
      R (pI x9) u))

theorem G_book_Map_alpha_number_alpha_memory_Len.ok (a0 : Option Addr) (u0 : Mem) (R : PV → Mem → Prop) : G_book_Map_alpha_number_alpha_memory_Len.sh a0 u0 R = VF ⟨Try.prog, 10, [], [], [], [], [], [], []⟩ ((Try.f47.body).getD .skip) [.tmp 2] [(.raw (.pointer a0))] u0 R := by kernel_rfl

theorem G_book_Map_alpha_number_alpha_memory_Len.c {a0 : Option Addr} {u0 : Mem} {K : PV → Mem → Prop} (h : G_book_Map_alpha_number_alpha_memory_Len.sh a0 u0 K) : CallP Try.prog 47 [(.raw (.pointer a0))] u0 K :=
  VF_sound (E := ⟨Try.prog, 10, [], [], [], [], [], [], []⟩) (rs := [.tmp 2]) Try.func47 rfl rfl rfl (by kernel_rfl) (by kernel_rfl) (G_book_Map_alpha_number_alpha_memory_Len.ok a0 u0 K ▸ h)


/-- ponder/ponderlaw10.light -/
def G_ponderlaw10_light.sh (a0f : Fl) (a0 : List (List PV)) (a1 : Int) (u0 : Mem) (R : PV → Mem → Prop) : Prop :=
  CIf (decide ((((List.length a0 : Nat) : Int) : Int) > a1))
  (R (pB false) u0)
  (LoopI (α := Int) (fun next s u =>
      CIf (decide ((s : Int) < ((List.length a0 : Nat) : Int)))
      ((0 : Int) ≤ s ∧ ∃ (r18 : List PV), (a0)[Int.toNat s]? = some r18 ∧
        ∃ (x21 : ByteArray), rowM r18 1 1 = some [(pS x21)] ∧
        CIf (decide ((((ByteArray.size x21 : Nat) : Int) : Int) > (100)))
        (R (pB false) u)
        ((0 : Int) ≤ s ∧ ∃ (r27 : List PV), (a0)[Int.toNat s]? = some r27 ∧
          ∃ (x30 : ByteArray), rowM r27 4 1 = some [(pS x30)] ∧
          CIf (decide ((((ByteArray.size x30 : Nat) : Int) : Int) > (100)))
          (R (pB false) u)
          ((0 : Int) ≤ s ∧ ∃ (r37 : List PV), (a0)[Int.toNat s]? = some r37 ∧
            ∃ (x40 : ByteArray), rowM r37 7 1 = some [(pS x40)] ∧
            CIf (decide ((((ByteArray.size x40 : Nat) : Int) : Int) > (100)))
            (R (pB false) u)
            (next (IntKind.wrap .i64 (s + (1))) u))))
      (R (pB true) u))
    (0) u0)

theorem G_ponderlaw10_light.ok (a0f : Fl) (a0 : List (List PV)) (a1 : Int) (u0 : Mem) (R : PV → Mem → Prop) : G_ponderlaw10_light.sh a0f a0 a1 u0 R = VF ⟨Try.prog, 44, [], [(4, ⟨[(5, .one (.raw (.int .i64)))], []⟩)], [], [], [], [], []⟩ ((Try.f48.body).getD .skip) [.tmp 4] [(.list 12 a0f a0), (pI a1)] u0 R := by kernel_rfl

theorem G_ponderlaw10_light.c {a0f : Fl} {a0 : List (List PV)} {a1 : Int} {u0 : Mem} {K : PV → Mem → Prop} (h : G_ponderlaw10_light.sh a0f a0 a1 u0 K) : CallP Try.prog 48 [(.list 12 a0f a0), (pI a1)] u0 K :=
  VF_sound (E := ⟨Try.prog, 44, [], [(4, ⟨[(5, .one (.raw (.int .i64)))], []⟩)], [], [], [], [], []⟩) (rs := [.tmp 4]) Try.func48 rfl rfl rfl (by kernel_rfl) (by kernel_rfl) (G_ponderlaw10_light.ok a0f a0 a1 u0 K ▸ h)


/-- (*ponder/book.Map[ponder/alpha.number, ponder/api.Elem]).Get -/
def G_book_Map_alpha_number_api_Elem_Get.sh (a0 : Option Addr) (a1 : Int) (u0 : Mem) (R : PV → Mem → Prop) : Prop :=
  CIf (Option.isNone a0)
  (R (.tup [(.agg [(pI (0)), (pS ⟨#[]⟩), (pI (0)), (pI (0)), (pS ⟨#[]⟩), (pI (0)), (pI (0)), (pS ⟨#[]⟩), (pI (0)), (pB false), (pB false), (pI (0))]), (pB false)]) u0)
  (CJoin (α := Option Addr × Bool) (fun J =>
      nn a0
      (withPtrP (.raw (.pointer a0)) fun b o =>
        ∃ (x16 : Option Addr), rdM u0 b o 1 = some [(.raw (.pointer x16))] ∧
        (CallQ Try.prog 72 [(pI a1)] u0 fun v u_1 =>
          ∃ (x18a : Int), ∃ (x18b : Int), ∃ (x18c : ByteArray), ∃ (x18d : Int), ∃ (x18e : Int), ∃ (x18f : ByteArray), ∃ (x18g : Int), ∃ (x18h : Int), ∃ (x18i : ByteArray), ∃ (x18j : Int), ∃ (x18k : Bool), ∃ (x18l : Bool), ∃ (x18m : Int), v = (.agg [(pI x18a), (pI x18b), (pS x18c), (pI x18d), (pI x18e), (pS x18f), (pI x18g), (pI x18h), (pS x18i), (pI x18j), (pB x18k), (pB x18l), (pI x18m)]) ∧
          (CallP Try.prog 71 [(.raw (.pointer x16)), (.agg [(pI x18a), (pI x18b), (pS x18c), (pI x18d), (pI x18e), (pS x18f), (pI x18g), (pI x18h), (pS x18i), (pI x18j), (pB x18k), (pB x18l), (pI x18m)])] (Mem.or u0 u_1) fun v_1 u_2 =>
            ∃ (x19pa : Int), ∃ (x19pb : Int), ∃ (x19pc : ByteArray), ∃ (x19pd : Int), ∃ (x19pe : Int), ∃ (x19pf : ByteArray), ∃ (x19pg : Int), ∃ (x19ph : Int), ∃ (x19pi : ByteArray), ∃ (x19pj : Int), ∃ (x19pk : Bool), ∃ (x19pl : Bool), ∃ (x19pm : Int), ∃ (x19q : Bool), v_1 = (.tup [(.agg [(pI x19pa), (pI x19pb), (pS x19pc), (pI x19pd), (pI x19pe), (pS x19pf), (pI x19pg), (pI x19ph), (pS x19pi), (pI x19pj), (pB x19pk), (pB x19pl), (pI x19pm)]), (pB x19q)]) ∧
            ∀ (b7 : Nat), u_2 b7 = none →
            stM b7 0 [(pI x19pa), (pI x19pb), (pS x19pc), (pI x19pd), (pI x19pe), (pS x19pf), (pI x19pg), (pI x19ph), (pS x19pi), (pI x19pj), (pB x19pk), (pB x19pl), (pI x19pm)] (Mem.set u_2 b7 (some (.cells 105 [(pI (0)), (pI (0)), (pS ⟨#[]⟩), (pI (0)), (pI (0)), (pS ⟨#[]⟩), (pI (0)), (pI (0)), (pS ⟨#[]⟩), (pI (0)), (pB false), (pB false), (pI (0))]))) fun u_3 =>
            J ((some ⟨b7, 0, none⟩), x19q) u_3) ∧
          (∀ (b7_1 : Nat), (Mem.or u0 u_1) b7_1 = none →
            CallP Try.prog 71 [(.raw (.pointer x16)), (.agg [(pI x18a), (pI x18b), (pS x18c), (pI x18d), (pI x18e), (pS x18f), (pI x18g), (pI x18h), (pS x18i), (pI x18j), (pB x18k), (pB x18l), (pI x18m)])] (Mem.set (Mem.or u0 u_1) b7_1 (some (.cells 105 [(pI (0)), (pI (0)), (pS ⟨#[]⟩), (pI (0)), (pI (0)), (pS ⟨#[]⟩), (pI (0)), (pI (0)), (pS ⟨#[]⟩), (pI (0)), (pB false), (pB false), (pI (0))]))) fun v_2 u_4 =>
            ∃ (x19pa_1 : Int), ∃ (x19pb_1 : Int), ∃ (x19pc_1 : ByteArray), ∃ (x19pd_1 : Int), ∃ (x19pe_1 : Int), ∃ (x19pf_1 : ByteArray), ∃ (x19pg_1 : Int), ∃ (x19ph_1 : Int), ∃ (x19pi_1 : ByteArray), ∃ (x19pj_1 : Int), ∃ (x19pk_1 : Bool), ∃ (x19pl_1 : Bool), ∃ (x19pm_1 : Int), ∃ (x19q_1 : Bool), v_2 = (.tup [(.agg [(pI x19pa_1), (pI x19pb_1), (pS x19pc_1), (pI x19pd_1), (pI x19pe_1), (pS x19pf_1), (pI x19pg_1), (pI x19ph_1), (pS x19pi_1), (pI x19pj_1), (pB x19pk_1), (pB x19pl_1), (pI x19pm_1)]), (pB x19q_1)]) ∧
            stM b7_1 0 [(pI x19pa_1), (pI x19pb_1), (pS x19pc_1), (pI x19pd_1), (pI x19pe_1), (pS x19pf_1), (pI x19pg_1), (pI x19ph_1), (pS x19pi_1), (pI x19pj_1), (pB x19pk_1), (pB x19pl_1), (pI x19pm_1)] u_4 fun u_5 =>
            J ((some ⟨b7_1, 0, none⟩), x19q_1) u_5)) ∧
        (∀ (b7_2 : Nat), u0 b7_2 = none →
          CallQ Try.prog 72 [(pI a1)] (Mem.set u0 b7_2 (some (.cells 105 [(pI (0)), (pI (0)), (pS ⟨#[]⟩), (pI (0)), (pI (0)), (pS ⟨#[]⟩), (pI (0)), (pI (0)), (pS ⟨#[]⟩), (pI (0)), (pB false), (pB false), (pI (0))]))) fun v_3 u_6 =>
          ∃ (x18a_1 : Int), ∃ (x18b_1 : Int), ∃ (x18c_1 : ByteArray), ∃ (x18d_1 : Int), ∃ (x18e_1 : Int), ∃ (x18f_1 : ByteArray), ∃ (x18g_1 : Int), ∃ (x18h_1 : Int), ∃ (x18i_1 : ByteArray), ∃ (x18j_1 : Int), ∃ (x18k_1 : Bool), ∃ (x18l_1 : Bool), ∃ (x18m_1 : Int), v_3 = (.agg [(pI x18a_1), (pI x18b_1), (pS x18c_1), (pI x18d_1), (pI x18e_1), (pS x18f_1), (pI x18g_1), (pI x18h_1), (pS x18i_1), (pI x18j_1), (pB x18k_1), (pB x18l_1), (pI x18m_1)]) ∧
          CallP Try.prog 71 [(.raw (.pointer x16)), (.agg [(pI x18a_1), (pI x18b_1), (pS x18c_1), (pI x18d_1), (pI x18e_1), (pS x18f_1), (pI x18g_1), (pI x18h_1), (pS x18i_1), (pI x18j_1), (pB x18k_1), (pB x18l_1), (pI x18m_1)])] (Mem.or (Mem.set u0 b7_2 (some (.cells 105 [(pI (0)), (pI (0)), (pS ⟨#[]⟩), (pI (0)), (pI (0)), (pS ⟨#[]⟩), (pI (0)), (pI (0)), (pS ⟨#[]⟩), (pI (0)), (pB false), (pB false), (pI (0))]))) u_6) fun v_4 u_7 =>
          ∃ (x19pa_2 : Int), ∃ (x19pb_2 : Int), ∃ (x19pc_2 : ByteArray), ∃ (x19pd_2 : Int), ∃ (x19pe_2 : Int), ∃ (x19pf_2 : ByteArray), ∃ (x19pg_2 : Int), ∃ (x19ph_2 : Int), ∃ (x19pi_2 : ByteArray), ∃ (x19pj_2 : Int), ∃ (x19pk_2 : Bool), ∃ (x19pl_2 : Bool), ∃ (x19pm_2 : Int), ∃ (x19q_2 : Bool), v_4 = (.tup [(.agg [(pI x19pa_2), (pI x19pb_2), (pS x19pc_2), (pI x19pd_2), (pI x19pe_2), (pS x19pf_2), (pI x19pg_2), (pI x19ph_2), (pS x19pi_2), (pI x19pj_2), (pB x19pk_2), (pB x19pl_2), (pI x19pm_2)]), (pB x19q_2)]) ∧
          stM b7_2 0 [(pI x19pa_2), (pI x19pb_2), (pS x19pc_2), (pI x19pd_2), (pI x19pe_2), (pS x19pf_2), (pI x19pg_2), (pI x19ph_2), (pS x19pi_2), (pI x19pj_2), (pB x19pk_2), (pB x19pl_2), (pI x19pm_2)] u_7 fun u_8 =>
          J ((some ⟨b7_2, 0, none⟩), x19q_2) u_8)))
    (fun s u =>
      withPtrP (.raw (.pointer s.1)) fun b_1 o_1 =>
      ∃ (x23a : Int), ∃ (x23b : ByteArray), ∃ (x23c : Int), ∃ (x23d : Int), ∃ (x23e : ByteArray), ∃ (x23f : Int), ∃ (x23g : Int), ∃ (x23h : ByteArray), ∃ (x23i : Int), ∃ (x23j : Bool), ∃ (x23k : Bool), ∃ (x23l : Int), rdM u b_1 (o_1 + 1) 12 = some [(pI x23a), (pS x23b), (pI x23c), (pI x23d), (pS x23e), (pI x23f), (pI x23g), (pS x23h), (pI x23i), (pB x23j), (pB x23k), (pI x23l)] ∧
      R (.tup [(.agg [(pI x23a), (pS x23b), (pI x23c), (pI x23d), (pS x23e), (pI x23f), (pI x23g), (pS x23h), (pI x23i), (pB x23j), (pB x23k), (pI x23l)]), (pB s.2)]) u))

theorem G_book_Map_alpha_number_api_Elem_Get.ok (a0 : Option Addr) (a1 : Int) (u0 : Mem) (R : PV → Mem → Prop) : G_book_Map_alpha_number_api_Elem_Get.sh a0 a1 u0 R = VF ⟨Try.prog, 25, [4, 6], [], [(5, ⟨[(7, .one (.raw .ptr)), (8, .one (.raw .bool))], []⟩)], [], [], [], []⟩ ((Try.f49.body).getD .skip) [.cell 4 51, .tmp 5] [(.raw (.pointer a0)), (pI a1)] u0 R := by kernel_rfl

theorem G_book_Map_alpha_number_api_Elem_Get.c {a0 : Option Addr} {a1 : Int} {u0 : Mem} {K : PV → Mem → Prop} (h : G_book_Map_alpha_number_api_Elem_Get.sh a0 a1 u0 K) : CallP Try.prog 49 [(.raw (.pointer a0)), (pI a1)] u0 K :=
  VF_sound (E := ⟨Try.prog, 25, [4, 6], [], [(5, ⟨[(7, .one (.raw .ptr)), (8, .one (.raw .bool))], []⟩)], [], [], [], []⟩) (rs := [.cell 4 51, .tmp 5]) Try.func49 rfl rfl rfl (by kernel_rfl) (by kernel_rfl) (G_book_Map_alpha_number_api_Elem_Get.ok a0 a1 u0 K ▸ h)


/-- (*ponder/book.Map[ponder/alpha.number, ponder/api.Elem]).Put -/
def G_book_Map_alpha_number_api_Elem_Put.sh (a0 : Option Addr) (a1 : Int) (a2a : Int) (a2b : ByteArray) (a2c : Int) (a2d : Int) (a2e : ByteArray) (a2f : Int) (a2g : Int) (a2h : ByteArray) (a2i : Int) (a2j : Bool) (a2k : Bool) (a2l : Int) (u0 : Mem) (R : PV → Mem → Prop) : Prop :=
  CIf (Option.isNone a0)
  (R (pB false) u0)
  (CJoin (α := Option Addr × Bool) (fun J =>
      nn a0
      (withPtrP (.raw (.pointer a0)) fun b o =>
        ∃ (x15 : Option Addr), rdM u0 b o 1 = some [(.raw (.pointer x15))] ∧
        (CallQ Try.prog 72 [(pI a1)] u0 fun v u_1 =>
          ∃ (x17a : Int), ∃ (x17b : Int), ∃ (x17c : ByteArray), ∃ (x17d : Int), ∃ (x17e : Int), ∃ (x17f : ByteArray), ∃ (x17g : Int), ∃ (x17h : Int), ∃ (x17i : ByteArray), ∃ (x17j : Int), ∃ (x17k : Bool), ∃ (x17l : Bool), ∃ (x17m : Int), v = (.agg [(pI x17a), (pI x17b), (pS x17c), (pI x17d), (pI x17e), (pS x17f), (pI x17g), (pI x17h), (pS x17i), (pI x17j), (pB x17k), (pB x17l), (pI x17m)]) ∧
          (CallP Try.prog 71 [(.raw (.pointer x15)), (.agg [(pI x17a), (pI x17b), (pS x17c), (pI x17d), (pI x17e), (pS x17f), (pI x17g), (pI x17h), (pS x17i), (pI x17j), (pB x17k), (pB x17l), (pI x17m)])] (Mem.or u0 u_1) fun v_1 u_2 =>
            ∃ (x18pa : Int), ∃ (x18pb : Int), ∃ (x18pc : ByteArray), ∃ (x18pd : Int), ∃ (x18pe : Int), ∃ (x18pf : ByteArray), ∃ (x18pg : Int), ∃ (x18ph : Int), ∃ (x18pi : ByteArray), ∃ (x18pj : Int), ∃ (x18pk : Bool), ∃ (x18pl : Bool), ∃ (x18pm : Int), ∃ (x18q : Bool), v_1 = (.tup [(.agg [(pI x18pa), (pI x18pb), (pS x18pc), (pI x18pd), (pI x18pe), (pS x18pf), (pI x18pg), (pI x18ph), (pS x18pi), (pI x18pj), (pB x18pk), (pB x18pl), (pI x18pm)]), (pB x18q)]) ∧
            ∀ (b7 : Nat), u_2 b7 = none →
            stM b7 0 [(pI x18pa), (pI x18pb), (pS x18pc), (pI x18pd), (pI x18pe), (pS x18pf), (pI x18pg), (pI x18ph), (pS x18pi), (pI x18pj), (pB x18pk), (pB x18pl), (pI x18pm)] (Mem.set u_2 b7 (some (.cells 105 [(pI (0)), (pI (0)), (pS ⟨#[]⟩), (pI (0)), (pI (0)), (pS ⟨#[]⟩), (pI (0)), (pI (0)), (pS ⟨#[]⟩), (pI (0)), (pB false), (pB false), (pI (0))]))) fun u_3 =>
            J ((some ⟨b7, 0, none⟩), x18q) u_3) ∧
          (∀ (b7_1 : Nat), (Mem.or u0 u_1) b7_1 = none →
            CallP Try.prog 71 [(.raw (.pointer x15)), (.agg [(pI x17a), (pI x17b), (pS x17c), (pI x17d), (pI x17e), (pS x17f), (pI x17g), (pI x17h), (pS x17i), (pI x17j), (pB x17k), (pB x17l), (pI x17m)])] (Mem.set (Mem.or u0 u_1) b7_1 (some (.cells 105 [(pI (0)), (pI (0)), (pS ⟨#[]⟩), (pI (0)), (pI (0)), (pS ⟨#[]⟩), (pI (0)), (pI (0)), (pS ⟨#[]⟩), (pI (0)), (pB false), (pB false), (pI (0))]))) fun v_2 u_4 =>
            ∃ (x18pa_1 : Int), ∃ (x18pb_1 : Int), ∃ (x18pc_1 : ByteArray), ∃ (x18pd_1 : Int), ∃ (x18pe_1 : Int), ∃ (x18pf_1 : ByteArray), ∃ (x18pg_1 : Int), ∃ (x18ph_1 : Int), ∃ (x18pi_1 : ByteArray), ∃ (x18pj_1 : Int), ∃ (x18pk_1 : Bool), ∃ (x18pl_1 : Bool), ∃ (x18pm_1 : Int), ∃ (x18q_1 : Bool), v_2 = (.tup [(.agg [(pI x18pa_1), (pI x18pb_1), (pS x18pc_1), (pI x18pd_1), (pI x18pe_1), (pS x18pf_1), (pI x18pg_1), (pI x18ph_1), (pS x18pi_1), (pI x18pj_1), (pB x18pk_1), (pB x18pl_1), (pI x18pm_1)]), (pB x18q_1)]) ∧
            stM b7_1 0 [(pI x18pa_1), (pI x18pb_1), (pS x18pc_1), (pI x18pd_1), (pI x18pe_1), (pS x18pf_1), (pI x18pg_1), (pI x18ph_1), (pS x18pi_1), (pI x18pj_1), (pB x18pk_1), (pB x18pl_1), (pI x18pm_1)] u_4 fun u_5 =>
            J ((some ⟨b7_1, 0, none⟩), x18q_1) u_5)) ∧
        (∀ (b7_2 : Nat), u0 b7_2 = none →
          CallQ Try.prog 72 [(pI a1)] (Mem.set u0 b7_2 (some (.cells 105 [(pI (0)), (pI (0)), (pS ⟨#[]⟩), (pI (0)), (pI (0)), (pS ⟨#[]⟩), (pI (0)), (pI (0)), (pS ⟨#[]⟩), (pI (0)), (pB false), (pB false), (pI (0))]))) fun v_3 u_6 =>
          ∃ (x17a_1 : Int), ∃ (x17b_1 : Int), ∃ (x17c_1 : ByteArray), ∃ (x17d_1 : Int), ∃ (x17e_1 : Int), ∃ (x17f_1 : ByteArray), ∃ (x17g_1 : Int), ∃ (x17h_1 : Int), ∃ (x17i_1 : ByteArray), ∃ (x17j_1 : Int), ∃ (x17k_1 : Bool), ∃ (x17l_1 : Bool), ∃ (x17m_1 : Int), v_3 = (.agg [(pI x17a_1), (pI x17b_1), (pS x17c_1), (pI x17d_1), (pI x17e_1), (pS x17f_1), (pI x17g_1), (pI x17h_1), (pS x17i_1), (pI x17j_1), (pB x17k_1), (pB x17l_1), (pI x17m_1)]) ∧
          CallP Try.prog 71 [(.raw (.pointer x15)), (.agg [(pI x17a_1), (pI x17b_1), (pS x17c_1), (pI x17d_1), (pI x17e_1), (pS x17f_1), (pI x17g_1), (pI x17h_1), (pS x17i_1), (pI x17j_1), (pB x17k_1), (pB x17l_1), (pI x17m_1)])] (Mem.or (Mem.set u0 b7_2 (some (.cells 105 [(pI (0)), (pI (0)), (pS ⟨#[]⟩), (pI (0)), (pI (0)), (pS ⟨#[]⟩), (pI (0)), (pI (0)), (pS ⟨#[]⟩), (pI (0)), (pB false), (pB false), (pI (0))]))) u_6) fun v_4 u_7 =>
          ∃ (x18pa_2 : Int), ∃ (x18pb_2 : Int), ∃ (x18pc_2 : ByteArray), ∃ (x18pd_2 : Int), ∃ (x18pe_2 : Int), ∃ (x18pf_2 : ByteArray), ∃ (x18pg_2 : Int), ∃ (x18ph_2 : Int), ∃ (x18pi_2 : ByteArray), ∃ (x18pj_2 : Int), ∃ (x18pk_2 : Bool), ∃ (x18pl_2 : Bool), ∃ (x18pm_2 : Int), ∃ (x18q_2 : Bool), v_4 = (.tup [(.agg [(pI x18pa_2), (pI x18pb_2), (pS x18pc_2), (pI x18pd_2), (pI x18pe_2), (pS x18pf_2), (pI x18pg_2), (pI x18ph_2), (pS x18pi_2), (pI x18pj_2), (pB x18pk_2), (pB x18pl_2), (pI x18pm_2)]), (pB x18q_2)]) ∧
          stM b7_2 0 [(pI x18pa_2), (pI x18pb_2), (pS x18pc_2), (pI x18pd_2), (pI x18pe_2), (pS x18pf_2), (pI x18pg_2), (pI x18ph_2), (pS x18pi_2), (pI x18pj_2), (pB x18pk_2), (pB x18pl_2), (pI x18pm_2)] u_7 fun u_8 =>
          J ((some ⟨b7_2, 0, none⟩), x18q_2) u_8)))
    (fun s u =>
      CIf (!s.2)
      (nn a0
        (withPtrP (.raw (.pointer a0)) fun b_1 o_1 =>
          ∃ (x26 : Option Addr), rdM u b_1 o_1 1 = some [(.raw (.pointer x26))] ∧
          CallP Try.prog 73 [(.raw (.pointer x26)), (.agg [(pI a1), (pI a2a), (pS a2b), (pI a2c), (pI a2d), (pS a2e), (pI a2f), (pI a2g), (pS a2h), (pI a2i), (pB a2j), (pB a2k), (pI a2l)])] u fun v_5 u_9 =>
          ∃ (x30 : Bool), v_5 = (pB x30) ∧
          R (pB x30) u_9))
      (nn a0
        (withPtrP (.raw (.pointer a0)) fun b_2 o_2 =>
          ∃ (x34 : Option Addr), rdM u b_2 o_2 1 = some [(.raw (.pointer x34))] ∧
          withPtrP (.raw (.pointer s.1)) fun b_3 o_3 =>
          ∃ (x35a : Int), ∃ (x35b : Int), ∃ (x35c : ByteArray), ∃ (x35d : Int), ∃ (x35e : Int), ∃ (x35f : ByteArray), ∃ (x35g : Int), ∃ (x35h : Int), ∃ (x35i : ByteArray), ∃ (x35j : Int), ∃ (x35k : Bool), ∃ (x35l : Bool), ∃ (x35m : Int), rdM u b_3 o_3 13 = some [(pI x35a), (pI x35b), (pS x35c), (pI x35d), (pI x35e), (pS x35f), (pI x35g), (pI x35h), (pS x35i), (pI x35j), (pB x35k), (pB x35l), (pI x35m)] ∧
          CallP Try.prog 74 [(.raw (.pointer x34)), (.agg [(pI x35a), (pI x35b), (pS x35c), (pI x35d), (pI x35e), (pS x35f), (pI x35g), (pI x35h), (pS x35i), (pI x35j), (pB x35k), (pB x35l), (pI x35m)])] u fun v_6 u_10 =>
          ∃ (x36 : Bool), v_6 = (pB x36) ∧
          nn a0
          (withPtrP (.raw (.pointer a0)) fun b_4 o_4 =>
            ∃ (x40 : Option Addr), rdM u_10 b_4 o_4 1 = some [(.raw (.pointer x40))] ∧
            withPtrP (.raw (.pointer s.1)) fun b_5 o_5 =>
            ∃ (x42 : Int), rdM u_10 b_5 o_5 1 = some [(pI x42)] ∧
            CallP Try.prog 73 [(.raw (.pointer x40)), (.agg [(pI x42), (pI a2a), (pS a2b), (pI a2c), (pI a2d), (pS a2e), (pI a2f), (pI a2g), (pS a2h), (pI a2i), (pB a2j), (pB a2k), (pI a2l)])] u_10 fun v_7 u_11 =>
            ∃ (x45 : Bool), v_7 = (pB x45) ∧
            R (pB false) u_11)))))

theorem G_book_Map_alpha_number_api_Elem_Put.ok (a0 : Option Addr) (a1 : Int) (a2a : Int) (a2b : ByteArray) (a2c : Int) (a2d : Int) (a2e : ByteArray) (a2f : Int) (a2g : Int) (a2h : ByteArray) (a2i : Int) (a2j : Bool) (a2k : Bool) (a2l : Int) (u0 : Mem) (R : PV → Mem → Prop) : G_book_Map_alpha_number_api_Elem_Put.sh a0 a1 a2a a2b a2c a2d a2e a2f a2g a2h a2i a2j a2k a2l u0 R = VF ⟨Try.prog, 46, [5], [], [(4, ⟨[(7, .one (.raw .ptr)), (8, .one (.raw .bool))], []⟩)], [], [], [], []⟩ ((Try.f50.body).getD .skip) [.tmp 6] [(.raw (.pointer a0)), (pI a1), (.agg [(pI a2a), (pS a2b), (pI a2c), (pI a2d), (pS a2e), (pI a2f), (pI a2g), (pS a2h), (pI a2i), (pB a2j), (pB a2k), (pI a2l)])] u0 R := by kernel_rfl

theorem G_book_Map_alpha_number_api_Elem_Put.c {a0 : Option Addr} {a1 : Int} {a2a : Int} {a2b : ByteArray} {a2c : Int} {a2d : Int} {a2e : ByteArray} {a2f : Int} {a2g : Int} {a2h : ByteArray} {a2i : Int} {a2j : Bool} {a2k : Bool} {a2l : Int} {u0 : Mem} {K : PV → Mem → Prop} (h : G_book_Map_alpha_number_api_Elem_Put.sh a0 a1 a2a a2b a2c a2d a2e a2f a2g a2h a2i a2j a2k a2l u0 K) : CallP Try.prog 50 [(.raw (.pointer a0)), (pI a1), (.agg [(pI a2a), (pS a2b), (pI a2c), (pI a2d), (pS a2e), (pI a2f), (pI a2g), (pS a2h), (pI a2i), (pB a2j), (pB a2k), (pI a2l)])] u0 K :=
  VF_sound (E := ⟨Try.prog, 46, [5], [], [(4, ⟨[(7, .one (.raw .ptr)), (8, .one (.raw .bool))], []⟩)], [], [], [], []⟩) (rs := [.tmp 6]) Try.func50 rfl rfl rfl (by kernel_rfl) (by kernel_rfl) (G_book_Map_alpha_number_api_Elem_Put.ok a0 a1 a2a a2b a2c a2d a2e a2f a2g a2h a2i a2j a2k a2l u0 K ▸ h)


/-- (*ponder/alpha.Net).In$1 -/
def G_alpha_Net_In_1.sh (a0 : Fn) (a0a a0b : List PV) (c0 : List PV) (c1 : List PV) (u0 : Mem) (R : PV → Mem → Prop) : Prop :=
  ∀ (b3 : Nat), u0 b3 = none →
  CJoin (α := Option Addr × Bool) (fun J =>
    ∃ (x8 : Option Addr), rowM c0 0 1 = some [(.raw (.pointer x8))] ∧
    nn x8
    (withPtrP (.raw (.pointer x8)) fun b o =>
      ∃ (x11 : Option Addr), rdM (Mem.set u0 b3 (some (.cells 96 [(.fn a0 a0a a0b)]))) b (o + 1) 1 = some [(.raw (.pointer x11))] ∧
      ∃ (x12 : Int), rowM c1 0 1 = some [(pI x12)] ∧
      (CallP Try.prog 45 [(.raw (.pointer x11)), (pI x12)] (Mem.set u0 b3 (some (.cells 96 [(.fn a0 a0a a0b)]))) fun v u_1 =>
        ∃ (x13pa : Int), ∃ (x13pb : Bool), ∃ (x13pc : ByteArray), ∃ (x13pdf : Fl) (x13pd : List (List PV)), ∃ (x13pef : Fl) (x13pe : List (List PV)), ∃ (x13pf : Bool), ∃ (x13pgf : Fl) (x13pg : List (List PV)), ∃ (x13ph : Int), ∃ (x13pi : Option Addr), ∃ (x13q : Bool), v = (.tup [(.agg [(pI x13pa), (pB x13pb), (pS x13pc), (.list 6 x13pdf x13pd), (.list 6 x13pef x13pe), (pB x13pf), (.list 7 x13pgf x13pg), (pI x13ph), (.raw (.pointer x13pi))]), (pB x13q)]) ∧
        ∀ (b4 : Nat), u_1 b4 = none →
        stM b4 0 [(pI x13pa), (pB x13pb), (pS x13pc), (.list 6 x13pdf x13pd), (.list 6 x13pef x13pe), (pB x13pf), (.list 7 x13pgf x13pg), (pI x13ph), (.raw (.pointer x13pi))] (Mem.set u_1 b4 (some (.cells 77 [(pI (0)), (pB false), (pS ⟨#[]⟩), (.list 6 .nil []), (.list 6 .nil []), (pB false), (.list 7 .nil []), (pI (0)), (.raw (.pointer none))]))) fun u_2 =>
        J ((some ⟨b4, 0, none⟩), x13q) u_2) ∧
      (∀ (b4_1 : Nat), (Mem.set u0 b3 (some (.cells 96 [(.fn a0 a0a a0b)]))) b4_1 = none →
        CallP Try.prog 45 [(.raw (.pointer x11)), (pI x12)] (Mem.set (Mem.set u0 b3 (some (.cells 96 [(.fn a0 a0a a0b)]))) b4_1 (some (.cells 77 [(pI (0)), (pB false), (pS ⟨#[]⟩), (.list 6 .nil []), (.list 6 .nil []), (pB false), (.list 7 .nil []), (pI (0)), (.raw (.pointer none))]))) fun v_1 u_3 =>
        ∃ (x13pa_1 : Int), ∃ (x13pb_1 : Bool), ∃ (x13pc_1 : ByteArray), ∃ (x13pd_1f : Fl) (x13pd_1 : List (List PV)), ∃ (x13pe_1f : Fl) (x13pe_1 : List (List PV)), ∃ (x13pf_1 : Bool), ∃ (x13pg_1f : Fl) (x13pg_1 : List (List PV)), ∃ (x13ph_1 : Int), ∃ (x13pi_1 : Option Addr), ∃ (x13q_1 : Bool), v_1 = (.tup [(.agg [(pI x13pa_1), (pB x13pb_1), (pS x13pc_1), (.list 6 x13pd_1f x13pd_1), (.list 6 x13pe_1f x13pe_1), (pB x13pf_1), (.list 7 x13pg_1f x13pg_1), (pI x13ph_1), (.raw (.pointer x13pi_1))]), (pB x13q_1)]) ∧
        stM b4_1 0 [(pI x13pa_1), (pB x13pb_1), (pS x13pc_1), (.list 6 x13pd_1f x13pd_1), (.list 6 x13pe_1f x13pe_1), (pB x13pf_1), (.list 7 x13pg_1f x13pg_1), (pI x13ph_1), (.raw (.pointer x13pi_1))] u_3 fun u_4 =>
        J ((some ⟨b4_1, 0, none⟩), x13q_1) u_4)))
  (fun s u =>
    CIf (!s.2)
    (R (.tup []) u)
    (withPtrP (.raw (.pointer s.1)) fun b_1 o_1 =>
      ∃ (x19 : Option Addr), rdM u b_1 (o_1 + 8) 1 = some [(.raw (.pointer x19))] ∧
      CallP Try.prog 52 [(.raw (.pointer x19))] u fun v_2 u_5 =>
      ∃ (x20 : Fn) (x20a x20b : List PV), v_2 = (.fn x20 x20a x20b) ∧
      RangeP Try.prog (.fn x20 x20a x20b) (fun vs RR u_6 =>
        ∃ (x21a : Int), ∃ (x21b : ByteArray), ∃ (x21c : Int), ∃ (x21d : Int), ∃ (x21e : ByteArray), ∃ (x21f : Int), ∃ (x21g : Int), ∃ (x21h : ByteArray), ∃ (x21i : Int), ∃ (x21j : Bool), ∃ (x21k : Bool), ∃ (x21l : Int), vs = [(.agg [(pI x21a), (pS x21b), (pI x21c), (pI x21d), (pS x21e), (pI x21f), (pI x21g), (pS x21h), (pI x21i), (pB x21j), (pB x21k), (pI x21l)])] ∧
        ∃ (x22 : Fn) (x22a x22b : List PV), rdM u_6 b3 0 1 = some [(.fn x22 x22a x22b)] ∧
        CallVP Try.prog (.fn x22 x22a x22b) [(.agg [(pI x21a), (pS x21b), (pI x21c), (pI x21d), (pS x21e), (pI x21f), (pI x21g), (pS x21h), (pI x21i), (pB x21j), (pB x21k), (pI x21l)])] u_6 fun v_3 u_8 =>
        ∃ (x24 : Bool), v_3 = (pB x24) ∧
        CIf (!x24)
        (RR (some .ret) u_8)
        (RR none u_8))
      (fun p u_7 =>
        PK p
        (R (.tup []) u_7)
        (R (.tup []) u_7)
        [])
      u_5))

theorem G_alpha_Net_In_1.ok (a0 : Fn) (a0a a0b : List PV) (c0 : List PV) (c1 : List PV) (u0 : Mem) (R : PV → Mem → Prop) : G_alpha_Net_In_1.sh a0 a0a a0b c0 c1 u0 R = VF ⟨Try.prog, 26, [6], [], [(2, ⟨[(4, .one (.raw .ptr)), (5, .one (.raw .bool))], []⟩)], [(21, [85])], [], [], []⟩ ((Try.f51.body).getD .skip) [] [(.fn a0 a0a a0b), (.fptr c0 0), (.fptr c1 0)] u0 R := by kernel_rfl

theorem G_alpha_Net_In_1.c {a0 : Fn} {a0a a0b : List PV} {c0 : List PV} {c1 : List PV} {u0 : Mem} {K : PV → Mem → Prop} (h : G_alpha_Net_In_1.sh a0 a0a a0b c0 c1 u0 K) : CallP Try.prog 51 [(.fn a0 a0a a0b), (.fptr c0 0), (.fptr c1 0)] u0 K :=
  VF_sound (E := ⟨Try.prog, 26, [6], [], [(2, ⟨[(4, .one (.raw .ptr)), (5, .one (.raw .bool))], []⟩)], [(21, [85])], [], [], []⟩) (rs := []) Try.func51 rfl rfl rfl (by kernel_rfl) (by kernel_rfl) (G_alpha_Net_In_1.ok a0 a0a a0b c0 c1 u0 K ▸ h)


/-- (*ponder/order.Set[ponder/alpha.tagged]).All -/
def G_order_Set_alpha_tagged_All.sh (a0 : Option Addr) (u0 : Mem) (R : PV → Mem → Prop) : Prop :=
  R (.fn (.func 75) [] [(.fptr [(.raw (.pointer a0))] 0)]) u0

theorem G_order_Set_alpha_tagged_All.ok (a0 : Option Addr) (u0 : Mem) (R : PV → Mem → Prop) : G_order_Set_alpha_tagged_All.sh a0 u0 R = VF ⟨Try.prog, 4, [], [], [], [], [1], [], []⟩ ((Try.f52.body).getD .skip) [.tmp 2] [(.raw (.pointer a0))] u0 R := by kernel_rfl

theorem G_order_Set_alpha_tagged_All.c {a0 : Option Addr} {u0 : Mem} {K : PV → Mem → Prop} (h : G_order_Set_alpha_tagged_All.sh a0 u0 K) : CallP Try.prog 52 [(.raw (.pointer a0))] u0 K :=
  VF_sound (E := ⟨Try.prog, 4, [], [], [], [], [1], [], []⟩) (rs := [.tmp 2]) Try.func52 rfl rfl rfl (by kernel_rfl) (by kernel_rfl) (G_order_Set_alpha_tagged_All.ok a0 u0 K ▸ h)


/-- (*ponder/book.Map[ponder/alpha.number, ponder/api.Elem]).Drop -/
def G_book_Map_alpha_number_api_Elem_Drop.sh (a0 : Option Addr) (a1 : Int) (u0 : Mem) (R : PV → Mem → Prop) : Prop :=
  CIf (Option.isNone a0)
  (R (.tup [(.agg [(pI (0)), (pS ⟨#[]⟩), (pI (0)), (pI (0)), (pS ⟨#[]⟩), (pI (0)), (pI (0)), (pS ⟨#[]⟩), (pI (0)), (pB false), (pB false), (pI (0))]), (pB false)]) u0)
  (CJoin (α := Option Addr × Bool) (fun J =>
      nn a0
      (withPtrP (.raw (.pointer a0)) fun b o =>
        ∃ (x16 : Option Addr), rdM u0 b o 1 = some [(.raw (.pointer x16))] ∧
        (CallQ Try.prog 72 [(pI a1)] u0 fun v u_1 =>
          ∃ (x18a : Int), ∃ (x18b : Int), ∃ (x18c : ByteArray), ∃ (x18d : Int), ∃ (x18e : Int), ∃ (x18f : ByteArray), ∃ (x18g : Int), ∃ (x18h : Int), ∃ (x18i : ByteArray), ∃ (x18j : Int), ∃ (x18k : Bool), ∃ (x18l : Bool), ∃ (x18m : Int), v = (.agg [(pI x18a), (pI x18b), (pS x18c), (pI x18d), (pI x18e), (pS x18f), (pI x18g), (pI x18h), (pS x18i), (pI x18j), (pB x18k), (pB x18l), (pI x18m)]) ∧
          (CallP Try.prog 71 [(.raw (.pointer x16)), (.agg [(pI x18a), (pI x18b), (pS x18c), (pI x18d), (pI x18e), (pS x18f), (pI x18g), (pI x18h), (pS x18i), (pI x18j), (pB x18k), (pB x18l), (pI x18m)])] (Mem.or u0 u_1) fun v_1 u_2 =>
            ∃ (x19pa : Int), ∃ (x19pb : Int), ∃ (x19pc : ByteArray), ∃ (x19pd : Int), ∃ (x19pe : Int), ∃ (x19pf : ByteArray), ∃ (x19pg : Int), ∃ (x19ph : Int), ∃ (x19pi : ByteArray), ∃ (x19pj : Int), ∃ (x19pk : Bool), ∃ (x19pl : Bool), ∃ (x19pm : Int), ∃ (x19q : Bool), v_1 = (.tup [(.agg [(pI x19pa), (pI x19pb), (pS x19pc), (pI x19pd), (pI x19pe), (pS x19pf), (pI x19pg), (pI x19ph), (pS x19pi), (pI x19pj), (pB x19pk), (pB x19pl), (pI x19pm)]), (pB x19q)]) ∧
            ∀ (b7 : Nat), u_2 b7 = none →
            stM b7 0 [(pI x19pa), (pI x19pb), (pS x19pc), (pI x19pd), (pI x19pe), (pS x19pf), (pI x19pg), (pI x19ph), (pS x19pi), (pI x19pj), (pB x19pk), (pB x19pl), (pI x19pm)] (Mem.set u_2 b7 (some (.cells 105 [(pI (0)), (pI (0)), (pS ⟨#[]⟩), (pI (0)), (pI (0)), (pS ⟨#[]⟩), (pI (0)), (pI (0)), (pS ⟨#[]⟩), (pI (0)), (pB false), (pB false), (pI (0))]))) fun u_3 =>
            J ((some ⟨b7, 0, none⟩), x19q) u_3) ∧
          (∀ (b7_1 : Nat), (Mem.or u0 u_1) b7_1 = none →
            CallP Try.prog 71 [(.raw (.pointer x16)), (.agg [(pI x18a), (pI x18b), (pS x18c), (pI x18d), (pI x18e), (pS x18f), (pI x18g), (pI x18h), (pS x18i), (pI x18j), (pB x18k), (pB x18l), (pI x18m)])] (Mem.set (Mem.or u0 u_1) b7_1 (some (.cells 105 [(pI (0)), (pI (0)), (pS ⟨#[]⟩), (pI (0)), (pI (0)), (pS ⟨#[]⟩), (pI (0)), (pI (0)), (pS ⟨#[]⟩), (pI (0)), (pB false), (pB false), (pI (0))]))) fun v_2 u_4 =>
            ∃ (x19pa_1 : Int), ∃ (x19pb_1 : Int), ∃ (x19pc_1 : ByteArray), ∃ (x19pd_1 : Int), ∃ (x19pe_1 : Int), ∃ (x19pf_1 : ByteArray), ∃ (x19pg_1 : Int), ∃ (x19ph_1 : Int), ∃ (x19pi_1 : ByteArray), ∃ (x19pj_1 : Int), ∃ (x19pk_1 : Bool), ∃ (x19pl_1 : Bool), ∃ (x19pm_1 : Int), ∃ (x19q_1 : Bool), v_2 = (.tup [(.agg [(pI x19pa_1), (pI x19pb_1), (pS x19pc_1), (pI x19pd_1), (pI x19pe_1), (pS x19pf_1), (pI x19pg_1), (pI x19ph_1), (pS x19pi_1), (pI x19pj_1), (pB x19pk_1), (pB x19pl_1), (pI x19pm_1)]), (pB x19q_1)]) ∧
            stM b7_1 0 [(pI x19pa_1), (pI x19pb_1), (pS x19pc_1), (pI x19pd_1), (pI x19pe_1), (pS x19pf_1), (pI x19pg_1), (pI x19ph_1), (pS x19pi_1), (pI x19pj_1), (pB x19pk_1), (pB x19pl_1), (pI x19pm_1)] u_4 fun u_5 =>
            J ((some ⟨b7_1, 0, none⟩), x19q_1) u_5)) ∧
        (∀ (b7_2 : Nat), u0 b7_2 = none →
          CallQ Try.prog 72 [(pI a1)] (Mem.set u0 b7_2 (some (.cells 105 [(pI (0)), (pI (0)), (pS ⟨#[]⟩), (pI (0)), (pI (0)), (pS ⟨#[]⟩), (pI (0)), (pI (0)), (pS ⟨#[]⟩), (pI (0)), (pB false), (pB false), (pI (0))]))) fun v_3 u_6 =>
          ∃ (x18a_1 : Int), ∃ (x18b_1 : Int), ∃ (x18c_1 : ByteArray), ∃ (x18d_1 : Int), ∃ (x18e_1 : Int), ∃ (x18f_1 : ByteArray), ∃ (x18g_1 : Int), ∃ (x18h_1 : Int), ∃ (x18i_1 : ByteArray), ∃ (x18j_1 : Int), ∃ (x18k_1 : Bool), ∃ (x18l_1 : Bool), ∃ (x18m_1 : Int), v_3 = (.agg [(pI x18a_1), (pI x18b_1), (pS x18c_1), (pI x18d_1), (pI x18e_1), (pS x18f_1), (pI x18g_1), (pI x18h_1), (pS x18i_1), (pI x18j_1), (pB x18k_1), (pB x18l_1), (pI x18m_1)]) ∧
          CallP Try.prog 71 [(.raw (.pointer x16)), (.agg [(pI x18a_1), (pI x18b_1), (pS x18c_1), (pI x18d_1), (pI x18e_1), (pS x18f_1), (pI x18g_1), (pI x18h_1), (pS x18i_1), (pI x18j_1), (pB x18k_1), (pB x18l_1), (pI x18m_1)])] (Mem.or (Mem.set u0 b7_2 (some (.cells 105 [(pI (0)), (pI (0)), (pS ⟨#[]⟩), (pI (0)), (pI (0)), (pS ⟨#[]⟩), (pI (0)), (pI (0)), (pS ⟨#[]⟩), (pI (0)), (pB false), (pB false), (pI (0))]))) u_6) fun v_4 u_7 =>
          ∃ (x19pa_2 : Int), ∃ (x19pb_2 : Int), ∃ (x19pc_2 : ByteArray), ∃ (x19pd_2 : Int), ∃ (x19pe_2 : Int), ∃ (x19pf_2 : ByteArray), ∃ (x19pg_2 : Int), ∃ (x19ph_2 : Int), ∃ (x19pi_2 : ByteArray), ∃ (x19pj_2 : Int), ∃ (x19pk_2 : Bool), ∃ (x19pl_2 : Bool), ∃ (x19pm_2 : Int), ∃ (x19q_2 : Bool), v_4 = (.tup [(.agg [(pI x19pa_2), (pI x19pb_2), (pS x19pc_2), (pI x19pd_2), (pI x19pe_2), (pS x19pf_2), (pI x19pg_2), (pI x19ph_2), (pS x19pi_2), (pI x19pj_2), (pB x19pk_2), (pB x19pl_2), (pI x19pm_2)]), (pB x19q_2)]) ∧
          stM b7_2 0 [(pI x19pa_2), (pI x19pb_2), (pS x19pc_2), (pI x19pd_2), (pI x19pe_2), (pS x19pf_2), (pI x19pg_2), (pI x19ph_2), (pS x19pi_2), (pI x19pj_2), (pB x19pk_2), (pB x19pl_2), (pI x19pm_2)] u_7 fun u_8 =>
          J ((some ⟨b7_2, 0, none⟩), x19q_2) u_8)))
    (fun s u =>
      CJoin (α := Unit) (fun J_1 =>
        CIf s.2
        (nn a0
          (withPtrP (.raw (.pointer a0)) fun b_1 o_1 =>
            ∃ (x26 : Option Addr), rdM u b_1 o_1 1 = some [(.raw (.pointer x26))] ∧
            withPtrP (.raw (.pointer s.1)) fun b_2 o_2 =>
            ∃ (x27a : Int), ∃ (x27b : Int), ∃ (x27c : ByteArray), ∃ (x27d : Int), ∃ (x27e : Int), ∃ (x27f : ByteArray), ∃ (x27g : Int), ∃ (x27h : Int), ∃ (x27i : ByteArray), ∃ (x27j : Int), ∃ (x27k : Bool), ∃ (x27l : Bool), ∃ (x27m : Int), rdM u b_2 o_2 13 = some [(pI x27a), (pI x27b), (pS x27c), (pI x27d), (pI x27e), (pS x27f), (pI x27g), (pI x27h), (pS x27i), (pI x27j), (pB x27k), (pB x27l), (pI x27m)] ∧
            CallP Try.prog 74 [(.raw (.pointer x26)), (.agg [(pI x27a), (pI x27b), (pS x27c), (pI x27d), (pI x27e), (pS x27f), (pI x27g), (pI x27h), (pS x27i), (pI x27j), (pB x27k), (pB x27l), (pI x27m)])] u fun v_5 u_10 =>
            ∃ (x28 : Bool), v_5 = (pB x28) ∧
            J_1 () u_10))
        (J_1 () u))
      (fun s_1 u_9 =>
        withPtrP (.raw (.pointer s.1)) fun b_3 o_3 =>
        ∃ (x30a : Int), ∃ (x30b : ByteArray), ∃ (x30c : Int), ∃ (x30d : Int), ∃ (x30e : ByteArray), ∃ (x30f : Int), ∃ (x30g : Int), ∃ (x30h : ByteArray), ∃ (x30i : Int), ∃ (x30j : Bool), ∃ (x30k : Bool), ∃ (x30l : Int), rdM u_9 b_3 (o_3 + 1) 12 = some [(pI x30a), (pS x30b), (pI x30c), (pI x30d), (pS x30e), (pI x30f), (pI x30g), (pS x30h), (pI x30i), (pB x30j), (pB x30k), (pI x30l)] ∧
        R (.tup [(.agg [(pI x30a), (pS x30b), (pI x30c), (pI x30d), (pS x30e), (pI x30f), (pI x30g), (pS x30h), (pI x30i), (pB x30j), (pB x30k), (pI x30l)]), (pB s.2)]) u_9)))

theorem G_book_Map_alpha_number_api_Elem_Drop.ok (a0 : Option Addr) (a1 : Int) (u0 : Mem) (R : PV → Mem → Prop) : G_book_Map_alpha_number_api_Elem_Drop.sh a0 a1 u0 R = VF ⟨Try.prog, 32, [4, 6], [], [(5, ⟨[(7, .one (.raw .ptr)), (8, .one (.raw .bool))], []⟩), (7, ⟨[], []⟩)], [], [], [], []⟩ ((Try.f53.body).getD .skip) [.cell 4 51, .tmp 5] [(.raw (.pointer a0)), (pI a1)] u0 R := by kernel_rfl

theorem G_book_Map_alpha_number_api_Elem_Drop.c {a0 : Option Addr} {a1 : Int} {u0 : Mem} {K : PV → Mem → Prop} (h : G_book_Map_alpha_number_api_Elem_Drop.sh a0 a1 u0 K) : CallP Try.prog 53 [(.raw (.pointer a0)), (pI a1)] u0 K :=
  VF_sound (E := ⟨Try.prog, 32, [4, 6], [], [(5, ⟨[(7, .one (.raw .ptr)), (8, .one (.raw .bool))], []⟩), (7, ⟨[], []⟩)], [], [], [], []⟩) (rs := [.cell 4 51, .tmp 5]) Try.func53 rfl rfl rfl (by kernel_rfl) (by kernel_rfl) (G_book_Map_alpha_number_api_Elem_Drop.ok a0 a1 u0 K ▸ h)


/-- (*ponder/order.Set[ponder/alpha.tagged]).Drop -/
def G_order_Set_alpha_tagged_Drop.sh (a0 : Option Addr) (a1a : Int) (a1b : ByteArray) (a1c : Int) (a1d : Int) (a1e : ByteArray) (a1f : Int) (a1g : Int) (a1h : ByteArray) (a1i : Int) (a1j : Bool) (a1k : Bool) (a1l : Int) (u0 : Mem) (R : PV → Mem → Prop) : Prop :=
  CIf (Option.isNone a0)
  (R (pB false) u0)
  (CallP Try.prog 68 [(.raw (.pointer a0)), (.agg [(pI a1a), (pS a1b), (pI a1c), (pI a1d), (pS a1e), (pI a1f), (pI a1g), (pS a1h), (pI a1i), (pB a1j), (pB a1k), (pI a1l)])] u0 fun v u =>
    ∃ (x13p : Int), ∃ (x13q : Bool), v = (.tup [(pI x13p), (pB x13q)]) ∧
    CIf (!x13q)
    (R (pB false) u)
    (CallP Try.prog 69 [(.raw (.pointer a0))] u fun v_1 u_1 =>
       v_1 = (.tup []) ∧
      LoopI (α := Int) (fun next s u_2 =>
        nn a0
        (withPtrP (.raw (.pointer a0)) fun b o =>
          ∃ (x26 : Option Addr) (x26n x26c : Nat), rdM u_2 b o 1 = some [(.raw (.slice x26 x26n x26c))] ∧
          CIf (decide (((IntKind.wrap .i64 (s + (1))) : Int) < ((x26n : Nat) : Int)))
          (nn a0
            (withPtrP (.raw (.pointer a0)) fun b_1 o_1 =>
              ∃ (x34 : Option Addr) (x34n x34c : Nat), rdM u_2 b_1 o_1 1 = some [(.raw (.slice x34 x34n x34c))] ∧
              nn a0
              (withPtrP (.raw (.pointer a0)) fun b_2 o_2 =>
                ∃ (x39 : Option Addr) (x39n x39c : Nat), rdM u_2 b_2 o_2 1 = some [(.raw (.slice x39 x39n x39c))] ∧
                withSl x39 fun b_3 o_3 =>
                (0 : Int) ≤ (IntKind.wrap .i64 (s + (1))) ∧ (IntKind.wrap .i64 (s + (1))) < ((x39n : Nat) : Int) ∧
                ∃ (x43a : Int), ∃ (x43b : ByteArray), ∃ (x43c : Int), ∃ (x43d : Int), ∃ (x43e : ByteArray), ∃ (x43f : Int), ∃ (x43g : Int), ∃ (x43h : ByteArray), ∃ (x43i : Int), ∃ (x43j : Bool), ∃ (x43k : Bool), ∃ (x43l : Int), rdM u_2 b_3 (o_3 + Int.toNat (IntKind.wrap .i64 (s + (1))) * 12) 12 = some [(pI x43a), (pS x43b), (pI x43c), (pI x43d), (pS x43e), (pI x43f), (pI x43g), (pS x43h), (pI x43i), (pB x43j), (pB x43k), (pI x43l)] ∧
                withSl x34 fun b_4 o_4 =>
                (0 : Int) ≤ s ∧ s < ((x34n : Nat) : Int) ∧
                stM b_4 (o_4 + Int.toNat s * 12) [(pI x43a), (pS x43b), (pI x43c), (pI x43d), (pS x43e), (pI x43f), (pI x43g), (pS x43h), (pI x43i), (pB x43j), (pB x43k), (pI x43l)] u_2 fun u_3 =>
                next (IntKind.wrap .i64 (s + (1))) u_3)))
          (nn a0
            (withPtrP (.raw (.pointer a0)) fun b_5 o_5 =>
              ∃ (x49 : Option Addr) (x49n x49c : Nat), rdM u_2 b_5 o_5 1 = some [(.raw (.slice x49 x49n x49c))] ∧
              nn a0
              (withPtrP (.raw (.pointer a0)) fun b_6 o_6 =>
                ∃ (x53 : Option Addr) (x53n x53c : Nat), rdM u_2 b_6 o_6 1 = some [(.raw (.slice x53 x53n x53c))] ∧
                noSpot x49 ∧ (0 : Int) ≤ (0 : Int) ∧ (0 : Int) ≤ (IntKind.wrap .i64 (((x53n : Nat) : Int) - (1))) ∧ (IntKind.wrap .i64 (((x53n : Nat) : Int) - (1))) ≤ ((x49c : Nat) : Int) ∧ ((x49c : Nat) : Int) ≤ ((x49c : Nat) : Int) ∧
                nn a0
                (withPtrP (.raw (.pointer a0)) fun b_7 o_7 =>
                  stM b_7 o_7 [(.raw (.slice (slA x49 (Int.toNat (0 : Int)) (Int.toNat ((x49c : Nat) : Int)) 12) (Int.toNat (IntKind.wrap .i64 (((x53n : Nat) : Int) - (1))) - Int.toNat (0 : Int)) (Int.toNat ((x49c : Nat) : Int) - Int.toNat (0 : Int))))] u_2 fun u_4 =>
                  R (pB true) u_4))))))
      x13p u_1))

theorem G_order_Set_alpha_tagged_Drop.ok (a0 : Option Addr) (a1a : Int) (a1b : ByteArray) (a1c : Int) (a1d : Int) (a1e : ByteArray) (a1f : Int) (a1g : Int) (a1h : ByteArray) (a1i : Int) (a1j : Bool) (a1k : Bool) (a1l : Int) (u0 : Mem) (R : PV → Mem → Prop) : G_order_Set_alpha_tagged_Drop.sh a0 a1a a1b a1c a1d a1e a1f a1g a1h a1i a1j a1k a1l u0 R = VF ⟨Try.prog, 59, [3], [(8, ⟨[(7, .one (.raw (.int .i64)))], []⟩)], [], [], [], [], [26, 34, 39, 49, 53, 56]⟩ ((Try.f54.body).getD .skip) [.tmp 4] [(.raw (.pointer a0)), (.agg [(pI a1a), (pS a1b), (pI a1c), (pI a1d), (pS a1e), (pI a1f), (pI a1g), (pS a1h), (pI a1i), (pB a1j), (pB a1k), (pI a1l)])] u0 R := by kernel_rfl

theorem G_order_Set_alpha_tagged_Drop.c {a0 : Option Addr} {a1a : Int} {a1b : ByteArray} {a1c : Int} {a1d : Int} {a1e : ByteArray} {a1f : Int} {a1g : Int} {a1h : ByteArray} {a1i : Int} {a1j : Bool} {a1k : Bool} {a1l : Int} {u0 : Mem} {K : PV → Mem → Prop} (h : G_order_Set_alpha_tagged_Drop.sh a0 a1a a1b a1c a1d a1e a1f a1g a1h a1i a1j a1k a1l u0 K) : CallP Try.prog 54 [(.raw (.pointer a0)), (.agg [(pI a1a), (pS a1b), (pI a1c), (pI a1d), (pS a1e), (pI a1f), (pI a1g), (pS a1h), (pI a1i), (pB a1j), (pB a1k), (pI a1l)])] u0 K :=
  VF_sound (E := ⟨Try.prog, 59, [3], [(8, ⟨[(7, .one (.raw (.int .i64)))], []⟩)], [], [], [], [], [26, 34, 39, 49, 53, 56]⟩) (rs := [.tmp 4]) Try.func54 rfl rfl rfl (by kernel_rfl) (by kernel_rfl) (G_order_Set_alpha_tagged_Drop.ok a0 a1a a1b a1c a1d a1e a1f a1g a1h a1i a1j a1k a1l u0 K ▸ h)


/-- ponder/ponderkeep.Copy[ponder/api.Sym] -/
def G_ponderkeep_Copy_api_Sym.sh (a0f : Fl) (a0 : List (List PV)) (u0 : Mem) (R : PV → Mem → Prop) : Prop :=
  appL false 3 32 .nil [] a0 u0 fun f4 u =>
  R (.list 3 f4 ([] ++ a0)) u

theorem G_ponderkeep_Copy_api_Sym.ok (a0f : Fl) (a0 : List (List PV)) (u0 : Mem) (R : PV → Mem → Prop) : G_ponderkeep_Copy_api_Sym.sh a0f a0 u0 R = VF ⟨Try.prog, 5, [], [], [], [], [], [], []⟩ ((Try.f55.body).getD .skip) [.tmp 2] [(.list 3 a0f a0)] u0 R := by kernel_rfl

theorem G_ponderkeep_Copy_api_Sym.c {a0f : Fl} {a0 : List (List PV)} {u0 : Mem} {K : PV → Mem → Prop} (h : G_ponderkeep_Copy_api_Sym.sh a0f a0 u0 K) : CallP Try.prog 55 [(.list 3 a0f a0)] u0 K :=
  VF_sound (E := ⟨Try.prog, 5, [], [], [], [], [], [], []⟩) (rs := [.tmp 2]) Try.func55 rfl rfl rfl (by kernel_rfl) (by kernel_rfl) (G_ponderkeep_Copy_api_Sym.ok a0f a0 u0 K ▸ h)


/-- ponder/ponderkeep.Copy[ponder/api.Sym] -/
def G_ponderkeep_Copy_api_Sym_s.sh (a0f : Fl) (a0 : List (List PV)) (u0 : Mem) (R : PV → Mem → Prop) : Prop :=
  appR 3 32 49 none 0 0 (.list 3 a0f a0) u0 fun s4 s4n s4c u =>
  R (.raw (.slice s4 s4n s4c)) u

theorem G_ponderkeep_Copy_api_Sym_s.ok (a0f : Fl) (a0 : List (List PV)) (u0 : Mem) (R : PV → Mem → Prop) : G_ponderkeep_Copy_api_Sym_s.sh a0f a0 u0 R = VF ⟨Try.prog, 5, [], [], [], [], [], [], [2, 4]⟩ ((Try.f55.body).getD .skip) [.tmp 2] [(.list 3 a0f a0)] u0 R := by kernel_rfl

theorem G_ponderkeep_Copy_api_Sym_s.c {a0f : Fl} {a0 : List (List PV)} {u0 : Mem} {K : PV → Mem → Prop} (h : G_ponderkeep_Copy_api_Sym_s.sh a0f a0 u0 K) : CallP Try.prog 55 [(.list 3 a0f a0)] u0 K :=
  VF_sound (E := ⟨Try.prog, 5, [], [], [], [], [], [], [2, 4]⟩) (rs := [.tmp 2]) Try.func55 rfl rfl rfl (by kernel_rfl) (by kernel_rfl) (G_ponderkeep_Copy_api_Sym_s.ok a0f a0 u0 K ▸ h)


/-- ponder/ponderkeep.Syms -/
def G_ponderkeep_Syms.sh (a0f : Fl) (a0 : List (List PV)) (a1f : Fl) (a1 : List (List PV)) (u0 : Mem) (R : PV → Mem → Prop) : Prop :=
  CIf ((((List.length a0 : Nat) : Int) : Int) != ((List.length a1 : Nat) : Int))
  (R (pB false) u0)
  (LoopI (α := Int) (fun next s u =>
      CIf (decide ((s : Int) < ((List.length a0 : Nat) : Int)))
      ((0 : Int) ≤ s ∧ ∃ (r19 : List PV), (a0)[Int.toNat s]? = some r19 ∧
        ∃ (x20a : Int), ∃ (x20b : ByteArray), ∃ (x20c : Int), rowM r19 0 3 = some [(pI x20a), (pS x20b), (pI x20c)] ∧
        (0 : Int) ≤ s ∧ ∃ (r23 : List PV), (a1)[Int.toNat s]? = some r23 ∧
        ∃ (x24a : Int), ∃ (x24b : ByteArray), ∃ (x24c : Int), rowM r23 0 3 = some [(pI x24a), (pS x24b), (pI x24c)] ∧
        CIf (!((x20a == x24a) && (strEq x20b x24b && ((x20c == x24c) && true))))
        (R (pB false) u)
        (next (IntKind.wrap .i64 (s + (1))) u))
      (R (pB true) u))
    (0) u0)

theorem G_ponderkeep_Syms.ok (a0f : Fl) (a0 : List (List PV)) (a1f : Fl) (a1 : List (List PV)) (u0 : Mem) (R : PV → Mem → Prop) : G_ponderkeep_Syms.sh a0f a0 a1f a1 u0 R = VF ⟨Try.prog, 26, [], [(4, ⟨[(5, .one (.raw (.int .i64)))], []⟩)], [], [], [], [], []⟩ ((Try.f56.body).getD .skip) [.tmp 4] [(.list 3 a0f a0), (.list 3 a1f a1)] u0 R := by kernel_rfl

theorem G_ponderkeep_Syms.c {a0f : Fl} {a0 : List (List PV)} {a1f : Fl} {a1 : List (List PV)} {u0 : Mem} {K : PV → Mem → Prop} (h : G_ponderkeep_Syms.sh a0f a0 a1f a1 u0 K) : CallP Try.prog 56 [(.list 3 a0f a0), (.list 3 a1f a1)] u0 K :=
  VF_sound (E := ⟨Try.prog, 26, [], [(4, ⟨[(5, .one (.raw (.int .i64)))], []⟩)], [], [], [], [], []⟩) (rs := [.tmp 4]) Try.func56 rfl rfl rfl (by kernel_rfl) (by kernel_rfl) (G_ponderkeep_Syms.ok a0f a0 a1f a1 u0 K ▸ h)


/-- ponder/order.New[ponder/book.page[ponder/alpha.number, ponder/api.Elem]] -/
def G_order_New_book_page_alpha_number_api_Elem.sh (a0f : Fl) (a0 : List (List PV)) (u0 : Mem) (R : PV → Mem → Prop) : Prop :=
  ∀ (b7 : Nat), u0 b7 = none →
  LoopI (α := Int) (fun next s u =>
    CIf (decide ((s : Int) < ((List.length a0 : Nat) : Int)))
    ((0 : Int) ≤ s ∧ ∃ (r12 : List PV), (a0)[Int.toNat s]? = some r12 ∧
      ∃ (x13a : Int), ∃ (x13b : Int), ∃ (x13c : ByteArray), ∃ (x13d : Int), ∃ (x13e : Int), ∃ (x13f : ByteArray), ∃ (x13g : Int), ∃ (x13h : Int), ∃ (x13i : ByteArray), ∃ (x13j : Int), ∃ (x13k : Bool), ∃ (x13l : Bool), ∃ (x13m : Int), rowM r12 0 13 = some [(pI x13a), (pI x13b), (pS x13c), (pI x13d), (pI x13e), (pS x13f), (pI x13g), (pI x13h), (pS x13i), (pI x13j), (pB x13k), (pB x13l), (pI x13m)] ∧
      CallP Try.prog 73 [(pP b7 0), (.agg [(pI x13a), (pI x13b), (pS x13c), (pI x13d), (pI x13e), (pS x13f), (pI x13g), (pI x13h), (pS x13i), (pI x13j), (pB x13k), (pB x13l), (pI x13m)])] u fun v u_1 =>
      ∃ (x16 : Bool), v = (pB x16) ∧
      next (IntKind.wrap .i64 (s + (1))) u_1)
    (R (pP b7 0) u))
  (0) (Mem.set u0 b7 (some (.cells 139 [(.list 13 .nil []), (pB false)])))

theorem G_order_New_book_page_alpha_number_api_Elem.ok (a0f : Fl) (a0 : List (List PV)) (u0 : Mem) (R : PV → Mem → Prop) : G_order_New_book_page_alpha_number_api_Elem.sh a0f a0 u0 R = VF ⟨Try.prog, 19, [5], [(3, ⟨[(10, .one (.raw (.int .i64)))], []⟩)], [], [], [], [], []⟩ ((Try.f57.body).getD .skip) [.tmp 2] [(.list 13 a0f a0)] u0 R := by kernel_rfl

theorem G_order_New_book_page_alpha_number_api_Elem.c {a0f : Fl} {a0 : List (List PV)} {u0 : Mem} {K : PV → Mem → Prop} (h : G_order_New_book_page_alpha_number_api_Elem.sh a0f a0 u0 K) : CallP Try.prog 57 [(.list 13 a0f a0)] u0 K :=
  VF_sound (E := ⟨Try.prog, 19, [5], [(3, ⟨[(10, .one (.raw (.int .i64)))], []⟩)], [], [], [], [], []⟩) (rs := [.tmp 2]) Try.func57 rfl rfl rfl (by kernel_rfl) (by kernel_rfl) (G_order_New_book_page_alpha_number_api_Elem.ok a0f a0 u0 K ▸ h)


/-- ponder/order.New[ponder/book.page[ponder/alpha.number, ponder/alpha.memory]] -/
def G_order_New_book_page_alpha_number_alpha_memory.sh (a0f : Fl) (a0 : List (List PV)) (u0 : Mem) (R : PV → Mem → Prop) : Prop :=
  ∀ (b7 : Nat), u0 b7 = none →
  LoopI (α := Int) (fun next s u =>
    CIf (decide ((s : Int) < ((List.length a0 : Nat) : Int)))
    ((0 : Int) ≤ s ∧ ∃ (r12 : List PV), (a0)[Int.toNat s]? = some r12 ∧
      ∃ (x13a : Int), ∃ (x13b : Int), ∃ (x13c : Bool), ∃ (x13d : ByteArray), ∃ (x13ef : Fl) (x13e : List (List PV)), ∃ (x13ff : Fl) (x13f : List (List PV)), ∃ (x13g : Bool), ∃ (x13hf : Fl) (x13h : List (List PV)), ∃ (x13i : Int), ∃ (x13j : Option Addr), rowM r12 0 10 = some [(pI x13a), (pI x13b), (pB x13c), (pS x13d), (.list 6 x13ef x13e), (.list 6 x13ff x13f), (pB x13g), (.list 7 x13hf x13h), (pI x13i), (.raw (.pointer x13j))] ∧
      CallP Try.prog 63 [(pP b7 0), (.agg [(pI x13a), (pI x13b), (pB x13c), (pS x13d), (.list 6 .sh x13e), (.list 6 .sh x13f), (pB x13g), (.list 7 .sh x13h), (pI x13i), (.raw (.pointer x13j))])] u fun v u_1 =>
      ∃ (x16 : Bool), v = (pB x16) ∧
      next (IntKind.wrap .i64 (s + (1))) u_1)
    (R (pP b7 0) u))
  (0) (Mem.set u0 b7 (some (.cells 142 [(.list 10 .nil []), (pB false)])))

theorem G_order_New_book_page_alpha_number_alpha_memory.ok (a0f : Fl) (a0 : List (List PV)) (u0 : Mem) (R : PV → Mem → Prop) : G_order_New_book_page_alpha_number_alpha_memory.sh a0f a0 u0 R = VF ⟨Try.prog, 19, [5], [(3, ⟨[(10, .one (.raw (.int .i64)))], []⟩)], [], [], [], [], []⟩ ((Try.f58.body).getD .skip) [.tmp 2] [(.list 10 a0f a0)] u0 R := by kernel_rfl

theorem G_order_New_book_page_alpha_number_alpha_memory.c {a0f : Fl} {a0 : List (List PV)} {u0 : Mem} {K : PV → Mem → Prop} (h : G_order_New_book_page_alpha_number_alpha_memory.sh a0f a0 u0 K) : CallP Try.prog 58 [(.list 10 a0f a0)] u0 K :=
  VF_sound (E := ⟨Try.prog, 19, [5], [(3, ⟨[(10, .one (.raw (.int .i64)))], []⟩)], [], [], [], [], []⟩) (rs := [.tmp 2]) Try.func58 rfl rfl rfl (by kernel_rfl) (by kernel_rfl) (G_order_New_book_page_alpha_number_alpha_memory.ok a0f a0 u0 K ▸ h)


/-- (*ponder/book.Map[ponder/alpha.number, ponder/alpha.memory]).All$1 -/
def G_book_Map_alpha_number_alpha_memory_All_1.sh (a0 : Fn) (a0a a0b : List PV) (c0 : List PV) (u0 : Mem) (R : PV → Mem → Prop) : Prop :=
  ∀ (b2 : Nat), u0 b2 = none →
  ∃ (x4 : Option Addr), rowM c0 0 1 = some [(.raw (.pointer x4))] ∧
  CIf (Option.isNone x4)
  (R (.tup []) (Mem.set u0 b2 (some (.cells 83 [(.fn a0 a0a a0b)]))))
  (∃ (x6 : Option Addr), rowM c0 0 1 = some [(.raw (.pointer x6))] ∧
    nn x6
    (withPtrP (.raw (.pointer x6)) fun b o =>
      ∃ (x9 : Option Addr), rdM (Mem.set u0 b2 (some (.cells 83 [(.fn a0 a0a a0b)]))) b o 1 = some [(.raw (.pointer x9))] ∧
      CallP Try.prog 60 [(.raw (.pointer x9))] (Mem.set u0 b2 (some (.cells 83 [(.fn a0 a0a a0b)]))) fun v u =>
      ∃ (x10 : Fn) (x10a x10b : List PV), v = (.fn x10 x10a x10b) ∧
      RangeP Try.prog (.fn x10 x10a x10b) (fun vs RR u_1 =>
        ∃ (x11a : Int), ∃ (x11b : Int), ∃ (x11c : Bool), ∃ (x11d : ByteArray), ∃ (x11ef : Fl) (x11e : List (List PV)), ∃ (x11ff : Fl) (x11f : List (List PV)), ∃ (x11g : Bool), ∃ (x11hf : Fl) (x11h : List (List PV)), ∃ (x11i : Int), ∃ (x11j : Option Addr), vs = [(.agg [(pI x11a), (pI x11b), (pB x11c), (pS x11d), (.list 6 x11ef x11e), (.list 6 x11ff x11f), (pB x11g), (.list 7 x11hf x11h), (pI x11i), (.raw (.pointer x11j))])] ∧
        ∃ (x12 : Fn) (x12a x12b : List PV), rdM u_1 b2 0 1 = some [(.fn x12 x12a x12b)] ∧
        CallVP Try.prog (.fn x12 x12a x12b) [(pI x11a), (.agg [(pI x11b), (pB x11c), (pS x11d), (.list 6 .sh x11e), (.list 6 .sh x11f), (pB x11g), (.list 7 .sh x11h), (pI x11i), (.raw (.pointer x11j))])] u_1 fun v_1 u_3 =>
        ∃ (x17 : Bool), v_1 = (pB x17) ∧
        CIf (!x17)
        (RR (some .ret) u_3)
        (RR none u_3))
      (fun p u_2 =>
        PK p
        (R (.tup []) u_2)
        (R (.tup []) u_2)
        [])
      u))

theorem G_book_Map_alpha_number_alpha_memory_All_1.ok (a0 : Fn) (a0a a0b : List PV) (c0 : List PV) (u0 : Mem) (R : PV → Mem → Prop) : G_book_Map_alpha_number_alpha_memory_All_1.sh a0 a0a a0b c0 u0 R = VF ⟨Try.prog, 19, [3], [], [], [(11, [111])], [], [], []⟩ ((Try.f59.body).getD .skip) [] [(.fn a0 a0a a0b), (.fptr c0 0)] u0 R := by kernel_rfl

theorem G_book_Map_alpha_number_alpha_memory_All_1.c {a0 : Fn} {a0a a0b : List PV} {c0 : List PV} {u0 : Mem} {K : PV → Mem → Prop} (h : G_book_Map_alpha_number_alpha_memory_All_1.sh a0 a0a a0b c0 u0 K) : CallP Try.prog 59 [(.fn a0 a0a a0b), (.fptr c0 0)] u0 K :=
  VF_sound (E := ⟨Try.prog, 19, [3], [], [], [(11, [111])], [], [], []⟩) (rs := []) Try.func59 rfl rfl rfl (by kernel_rfl) (by kernel_rfl) (G_book_Map_alpha_number_alpha_memory_All_1.ok a0 a0a a0b c0 u0 K ▸ h)


/-- (*ponder/order.Set[ponder/book.page[ponder/alpha.number, ponder/alpha.memory]]).All -/
def G_order_Set_book_page_alpha_number_alpha_memory_All.sh (a0 : Option Addr) (u0 : Mem) (R : PV → Mem → Prop) : Prop :=
  R (.fn (.func 77) [] [(.fptr [(.raw (.pointer a0))] 0)]) u0

theorem G_order_Set_book_page_alpha_number_alpha_memory_All.ok (a0 : Option Addr) (u0 : Mem) (R : PV → Mem → Prop) : G_order_Set_book_page_alpha_number_alpha_memory_All.sh a0 u0 R = VF ⟨Try.prog, 4, [], [], [], [], [1], [], []⟩ ((Try.f60.body).getD .skip) [.tmp 2] [(.raw (.pointer a0))] u0 R := by kernel_rfl

theorem G_order_Set_book_page_alpha_number_alpha_memory_All.c {a0 : Option Addr} {u0 : Mem} {K : PV → Mem → Prop} (h : G_order_Set_book_page_alpha_number_alpha_memory_All.sh a0 u0 K) : CallP Try.prog 60 [(.raw (.pointer a0))] u0 K :=
  VF_sound (E := ⟨Try.prog, 4, [], [], [], [], [1], [], []⟩) (rs := [.tmp 2]) Try.func60 rfl rfl rfl (by kernel_rfl) (by kernel_rfl) (G_order_Set_book_page_alpha_number_alpha_memory_All.ok a0 u0 K ▸ h)


/-- (*ponder/order.Set[ponder/book.page[ponder/alpha.number, ponder/alpha.memory]]).Get -/
def G_order_Set_book_page_alpha_number_alpha_memory_Get.sh (a0 : Option Addr) (a1a : Int) (a1b : Int) (a1c : Bool) (a1d : ByteArray) (a1ef : Fl) (a1e : List (List PV)) (a1ff : Fl) (a1f : List (List PV)) (a1g : Bool) (a1hf : Fl) (a1h : List (List PV)) (a1i : Int) (a1j : Option Addr) (u0 : Mem) (R : PV → Mem → Prop) : Prop :=
  CIf (Option.isNone a0)
  (R (.tup [(.agg [(pI (0)), (pI (0)), (pB false), (pS ⟨#[]⟩), (.list 6 .nil []), (.list 6 .nil []), (pB false), (.list 7 .nil []), (pI (0)), (.raw (.pointer none))]), (pB false)]) u0)
  (CallP Try.prog 79 [(.raw (.pointer a0)), (.agg [(pI a1a), (pI a1b), (pB a1c), (pS a1d), (.list 6 .sh a1e), (.list 6 .sh a1f), (pB a1g), (.list 7 .sh a1h), (pI a1i), (.raw (.pointer a1j))])] u0 fun v u =>
    ∃ (x15p : Int), ∃ (x15q : Bool), v = (.tup [(pI x15p), (pB x15q)]) ∧
    CIf (!x15q)
    (R (.tup [(.agg [(pI (0)), (pI (0)), (pB false), (pS ⟨#[]⟩), (.list 6 .nil []), (.list 6 .nil []), (pB false), (.list 7 .nil []), (pI (0)), (.raw (.pointer none))]), (pB false)]) u)
    (nn a0
      (withPtrP (.raw (.pointer a0)) fun b o =>
        ∃ (x24f : Fl) (x24 : List (List PV)), rdM u b o 1 = some [(.list 10 x24f x24)] ∧
        (0 : Int) ≤ x15p ∧ ∃ (r26 : List PV), (x24)[Int.toNat x15p]? = some r26 ∧
        ∃ (x27a : Int), ∃ (x27b : Int), ∃ (x27c : Bool), ∃ (x27d : ByteArray), ∃ (x27ef : Fl) (x27e : List (List PV)), ∃ (x27ff : Fl) (x27f : List (List PV)), ∃ (x27g : Bool), ∃ (x27hf : Fl) (x27h : List (List PV)), ∃ (x27i : Int), ∃ (x27j : Option Addr), rowM r26 0 10 = some [(pI x27a), (pI x27b), (pB x27c), (pS x27d), (.list 6 x27ef x27e), (.list 6 x27ff x27f), (pB x27g), (.list 7 x27hf x27h), (pI x27i), (.raw (.pointer x27j))] ∧
        R (.tup [(.agg [(pI x27a), (pI x27b), (pB x27c), (pS x27d), (.list 6 x27ef x27e), (.list 6 x27ff x27f), (pB x27g), (.list 7 x27hf x27h), (pI x27i), (.raw (.pointer x27j))]), (pB true)]) u)))

theorem G_order_Set_book_page_alpha_number_alpha_memory_Get.ok (a0 : Option Addr) (a1a : Int) (a1b : Int) (a1c : Bool) (a1d : ByteArray) (a1ef : Fl) (a1e : List (List PV)) (a1ff : Fl) (a1f : List (List PV)) (a1g : Bool) (a1hf : Fl) (a1h : List (List PV)) (a1i : Int) (a1j : Option Addr) (u0 : Mem) (R : PV → Mem → Prop) : G_order_Set_book_page_alpha_number_alpha_memory_Get.sh a0 a1a a1b a1c a1d a1ef a1e a1ff a1f a1g a1hf a1h a1i a1j u0 R = VF ⟨Try.prog, 28, [3, 4, 6], [], [], [], [], [], []⟩ ((Try.f61.body).getD .skip) [.cell 4 111, .tmp 5] [(.raw (.pointer a0)), (.agg [(pI a1a), (pI a1b), (pB a1c), (pS a1d), (.list 6 a1ef a1e), (.list 6 a1ff a1f), (pB a1g), (.list 7 a1hf a1h), (pI a1i), (.raw (.pointer a1j))])] u0 R := by kernel_rfl

theorem G_order_Set_book_page_alpha_number_alpha_memory_Get.c {a0 : Option Addr} {a1a : Int} {a1b : Int} {a1c : Bool} {a1d : ByteArray} {a1ef : Fl} {a1e : List (List PV)} {a1ff : Fl} {a1f : List (List PV)} {a1g : Bool} {a1hf : Fl} {a1h : List (List PV)} {a1i : Int} {a1j : Option Addr} {u0 : Mem} {K : PV → Mem → Prop} (h : G_order_Set_book_page_alpha_number_alpha_memory_Get.sh a0 a1a a1b a1c a1d a1ef a1e a1ff a1f a1g a1hf a1h a1i a1j u0 K) : CallP Try.prog 61 [(.raw (.pointer a0)), (.agg [(pI a1a), (pI a1b), (pB a1c), (pS a1d), (.list 6 a1ef a1e), (.list 6 a1ff a1f), (pB a1g), (.list 7 a1hf a1h), (pI a1i), (.raw (.pointer a1j))])] u0 K :=
  VF_sound (E := ⟨Try.prog, 28, [3, 4, 6], [], [], [], [], [], []⟩) (rs := [.cell 4 111, .tmp 5]) Try.func61 rfl rfl rfl (by kernel_rfl) (by kernel_rfl) (G_order_Set_book_page_alpha_number_alpha_memory_Get.ok a0 a1a a1b a1c a1d a1ef a1e a1ff a1f a1g a1hf a1h a1i a1j u0 K ▸ h)


/-- (*ponder/order.Set[ponder/book.page[ponder/alpha.number, ponder/alpha.memory]]).Get -/
def G_order_Set_book_page_alpha_number_alpha_memory_Get_r.sh (a0 : Option Addr) (a1a : Int) (a1b : Int) (a1c : Bool) (a1d : ByteArray) (a1ef : Fl) (a1e : List (List PV)) (a1ff : Fl) (a1f : List (List PV)) (a1g : Bool) (a1hf : Fl) (a1h : List (List PV)) (a1i : Int) (a1j : Option Addr) (u0 : Mem) (R : PV → Mem → Prop) : Prop :=
  CIf (Option.isNone a0)
  (R (.tup [(.agg [(pI (0)), (pI (0)), (pB false), (pS ⟨#[]⟩), (.list 6 .nil []), (.list 6 .nil []), (pB false), (.list 7 .nil []), (pI (0)), (.raw (.pointer none))]), (pB false)]) u0)
  (CallP Try.prog 79 [(.raw (.pointer a0)), (.agg [(pI a1a), (pI a1b), (pB a1c), (pS a1d), (.list 6 .sh a1e), (.list 6 .sh a1f), (pB a1g), (.list 7 .sh a1h), (pI a1i), (.raw (.pointer a1j))])] u0 fun v u =>
    ∃ (x15p : Int), ∃ (x15q : Bool), v = (.tup [(pI x15p), (pB x15q)]) ∧
    CIf (!x15q)
    (R (.tup [(.agg [(pI (0)), (pI (0)), (pB false), (pS ⟨#[]⟩), (.list 6 .nil []), (.list 6 .nil []), (pB false), (.list 7 .nil []), (pI (0)), (.raw (.pointer none))]), (pB false)]) u)
    (nn a0
      (withPtrP (.raw (.pointer a0)) fun b o =>
        ∃ (x24 : Option Addr) (x24n x24c : Nat), rdM u b o 1 = some [(.raw (.slice x24 x24n x24c))] ∧
        withSl x24 fun b_1 o_1 =>
        (0 : Int) ≤ x15p ∧ x15p < ((x24n : Nat) : Int) ∧
        ∃ (x27a : Int), ∃ (x27b : Int), ∃ (x27c : Bool), ∃ (x27d : ByteArray), ∃ (x27ef : Fl) (x27e : List (List PV)), ∃ (x27ff : Fl) (x27f : List (List PV)), ∃ (x27g : Bool), ∃ (x27hf : Fl) (x27h : List (List PV)), ∃ (x27i : Int), ∃ (x27j : Option Addr), rdM u b_1 (o_1 + Int.toNat x15p * 10) 10 = some [(pI x27a), (pI x27b), (pB x27c), (pS x27d), (.list 6 x27ef x27e), (.list 6 x27ff x27f), (pB x27g), (.list 7 x27hf x27h), (pI x27i), (.raw (.pointer x27j))] ∧
        R (.tup [(.agg [(pI x27a), (pI x27b), (pB x27c), (pS x27d), (.list 6 x27ef x27e), (.list 6 x27ff x27f), (pB x27g), (.list 7 x27hf x27h), (pI x27i), (.raw (.pointer x27j))]), (pB true)]) u)))

theorem G_order_Set_book_page_alpha_number_alpha_memory_Get_r.ok (a0 : Option Addr) (a1a : Int) (a1b : Int) (a1c : Bool) (a1d : ByteArray) (a1ef : Fl) (a1e : List (List PV)) (a1ff : Fl) (a1f : List (List PV)) (a1g : Bool) (a1hf : Fl) (a1h : List (List PV)) (a1i : Int) (a1j : Option Addr) (u0 : Mem) (R : PV → Mem → Prop) : G_order_Set_book_page_alpha_number_alpha_memory_Get_r.sh a0 a1a a1b a1c a1d a1ef a1e a1ff a1f a1g a1hf a1h a1i a1j u0 R = VF ⟨Try.prog, 28, [3, 4, 6], [], [], [], [], [], [24]⟩ ((Try.f61.body).getD .skip) [.cell 4 111, .tmp 5] [(.raw (.pointer a0)), (.agg [(pI a1a), (pI a1b), (pB a1c), (pS a1d), (.list 6 a1ef a1e), (.list 6 a1ff a1f), (pB a1g), (.list 7 a1hf a1h), (pI a1i), (.raw (.pointer a1j))])] u0 R := by kernel_rfl

theorem G_order_Set_book_page_alpha_number_alpha_memory_Get_r.c {a0 : Option Addr} {a1a : Int} {a1b : Int} {a1c : Bool} {a1d : ByteArray} {a1ef : Fl} {a1e : List (List PV)} {a1ff : Fl} {a1f : List (List PV)} {a1g : Bool} {a1hf : Fl} {a1h : List (List PV)} {a1i : Int} {a1j : Option Addr} {u0 : Mem} {K : PV → Mem → Prop} (h : G_order_Set_book_page_alpha_number_alpha_memory_Get_r.sh a0 a1a a1b a1c a1d a1ef a1e a1ff a1f a1g a1hf a1h a1i a1j u0 K) : CallP Try.prog 61 [(.raw (.pointer a0)), (.agg [(pI a1a), (pI a1b), (pB a1c), (pS a1d), (.list 6 a1ef a1e), (.list 6 a1ff a1f), (pB a1g), (.list 7 a1hf a1h), (pI a1i), (.raw (.pointer a1j))])] u0 K :=
  VF_sound (E := ⟨Try.prog, 28, [3, 4, 6], [], [], [], [], [], [24]⟩) (rs := [.cell 4 111, .tmp 5]) Try.func61 rfl rfl rfl (by kernel_rfl) (by kernel_rfl) (G_order_Set_book_page_alpha_number_alpha_memory_Get_r.ok a0 a1a a1b a1c a1d a1ef a1e a1ff a1f a1g a1hf a1h a1i a1j u0 K ▸ h)


/-- ponder/book.at[ponder/alpha.number,ponder/alpha.memory] -/
def G_book_at_alpha_number_alpha_memory.sh (a0 : Int) (u0 : Mem) (R : PV → Mem → Prop) : Prop :=
  R (.agg [(pI a0), (pI (0)), (pB false), (pS ⟨#[]⟩), (.list 6 .nil []), (.list 6 .nil []), (pB false), (.list 7 .nil []), (pI (0)), (.raw (.pointer none))]) u0

theorem G_book_at_alpha_number_alpha_memory.ok (a0 : Int) (u0 : Mem) (R : PV → Mem → Prop) : G_book_at_alpha_number_alpha_memory.sh a0 u0 R = VF ⟨Try.prog, 5, [2], [], [], [], [], [], []⟩ ((Try.f62.body).getD .skip) [.cell 2 111] [(pI a0)] u0 R := by kernel_rfl

theorem G_book_at_alpha_number_alpha_memory.c {a0 : Int} {u0 : Mem} {K : PV → Mem → Prop} (h : G_book_at_alpha_number_alpha_memory.sh a0 u0 K) : CallP Try.prog 62 [(pI a0)] u0 K :=
  VF_sound (E := ⟨Try.prog, 5, [2], [], [], [], [], [], []⟩) (rs := [.cell 2 111]) Try.func62 rfl rfl rfl (by kernel_rfl) (by kernel_rfl) (G_book_at_alpha_number_alpha_memory.ok a0 u0 K ▸ h)


/-- (*ponder/order.Set[ponder/book.page[ponder/alpha.number, ponder/alpha.memory]]).Put -/
def G_order_Set_book_page_alpha_number_alpha_memory_Put.sh (a0 : Option Addr) (a1a : Int) (a1b : Int) (a1c : Bool) (a1d : ByteArray) (a1ef : Fl) (a1e : List (List PV)) (a1ff : Fl) (a1f : List (List PV)) (a1g : Bool) (a1hf : Fl) (a1h : List (List PV)) (a1i : Int) (a1j : Option Addr) (u0 : Mem) (R : PV → Mem → Prop) : Prop :=
  CIf (Option.isNone a0)
  (R (pB false) u0)
  (CallP Try.prog 79 [(.raw (.pointer a0)), (.agg [(pI a1a), (pI a1b), (pB a1c), (pS a1d), (.list 6 .sh a1e), (.list 6 .sh a1f), (pB a1g), (.list 7 .sh a1h), (pI a1i), (.raw (.pointer a1j))])] u0 fun v u =>
    ∃ (x13p : Int), ∃ (x13q : Bool), v = (.tup [(pI x13p), (pB x13q)]) ∧
    CIf x13q
    (R (pB false) u)
    (CallP Try.prog 80 [(.raw (.pointer a0))] u fun v_1 u_1 =>
       v_1 = (.tup []) ∧
      nn a0
      (withPtrP (.raw (.pointer a0)) fun b o =>
        ∃ (x23 : Option Addr) (x23n x23c : Nat), rdM u_1 b o 1 = some [(.raw (.slice x23 x23n x23c))] ∧
        appR 10 136 111 x23 x23n x23c (.list 10 .nr [[(pI a1a), (pI a1b), (pB a1c), (pS a1d), (.list 6 .sh a1e), (.list 6 .sh a1f), (pB a1g), (.list 7 .sh a1h), (pI a1i), (.raw (.pointer a1j))]]) u_1 fun s26 s26n s26c u_2 =>
        nn a0
        (withPtrP (.raw (.pointer a0)) fun b_1 o_1 =>
          stM b_1 o_1 [(.raw (.slice s26 s26n s26c))] u_2 fun u_3 =>
          nn a0
          (withPtrP (.raw (.pointer a0)) fun b_2 o_2 =>
            ∃ (x32 : Option Addr) (x32n x32c : Nat), rdM u_3 b_2 o_2 1 = some [(.raw (.slice x32 x32n x32c))] ∧
            LoopI (α := Int) (fun next s u_4 =>
              CIf (decide ((s : Int) > x13p))
              (nn a0
                (withPtrP (.raw (.pointer a0)) fun b_3 o_3 =>
                  ∃ (x43 : Option Addr) (x43n x43c : Nat), rdM u_4 b_3 o_3 1 = some [(.raw (.slice x43 x43n x43c))] ∧
                  nn a0
                  (withPtrP (.raw (.pointer a0)) fun b_4 o_4 =>
                    ∃ (x48 : Option Addr) (x48n x48c : Nat), rdM u_4 b_4 o_4 1 = some [(.raw (.slice x48 x48n x48c))] ∧
                    withSl x48 fun b_5 o_5 =>
                    (0 : Int) ≤ (IntKind.wrap .i64 (s - (1))) ∧ (IntKind.wrap .i64 (s - (1))) < ((x48n : Nat) : Int) ∧
                    ∃ (x52a : Int), ∃ (x52b : Int), ∃ (x52c : Bool), ∃ (x52d : ByteArray), ∃ (x52ef : Fl) (x52e : List (List PV)), ∃ (x52ff : Fl) (x52f : List (List PV)), ∃ (x52g : Bool), ∃ (x52hf : Fl) (x52h : List (List PV)), ∃ (x52i : Int), ∃ (x52j : Option Addr), rdM u_4 b_5 (o_5 + Int.toNat (IntKind.wrap .i64 (s - (1))) * 10) 10 = some [(pI x52a), (pI x52b), (pB x52c), (pS x52d), (.list 6 x52ef x52e), (.list 6 x52ff x52f), (pB x52g), (.list 7 x52hf x52h), (pI x52i), (.raw (.pointer x52j))] ∧
                    withSl x43 fun b_6 o_6 =>
                    (0 : Int) ≤ s ∧ s < ((x43n : Nat) : Int) ∧
                    stM b_6 (o_6 + Int.toNat s * 10) [(pI x52a), (pI x52b), (pB x52c), (pS x52d), (.list 6 x52ef x52e), (.list 6 x52ff x52f), (pB x52g), (.list 7 x52hf x52h), (pI x52i), (.raw (.pointer x52j))] u_4 fun u_5 =>
                    next (IntKind.wrap .i64 (s - (1))) u_5)))
              (nn a0
                (withPtrP (.raw (.pointer a0)) fun b_7 o_7 =>
                  ∃ (x57 : Option Addr) (x57n x57c : Nat), rdM u_4 b_7 o_7 1 = some [(.raw (.slice x57 x57n x57c))] ∧
                  withSl x57 fun b_8 o_8 =>
                  (0 : Int) ≤ x13p ∧ x13p < ((x57n : Nat) : Int) ∧
                  stM b_8 (o_8 + Int.toNat x13p * 10) [(pI a1a), (pI a1b), (pB a1c), (pS a1d), (.list 6 a1ef a1e), (.list 6 a1ff a1f), (pB a1g), (.list 7 a1hf a1h), (pI a1i), (.raw (.pointer a1j))] u_4 fun u_6 =>
                  R (pB true) u_6)))
            (IntKind.wrap .i64 (((x32n : Nat) : Int) - (1))) u_3)))))

theorem G_order_Set_book_page_alpha_number_alpha_memory_Put.ok (a0 : Option Addr) (a1a : Int) (a1b : Int) (a1c : Bool) (a1d : ByteArray) (a1ef : Fl) (a1e : List (List PV)) (a1ff : Fl) (a1f : List (List PV)) (a1g : Bool) (a1hf : Fl) (a1h : List (List PV)) (a1i : Int) (a1j : Option Addr) (u0 : Mem) (R : PV → Mem → Prop) : G_order_Set_book_page_alpha_number_alpha_memory_Put.sh a0 a1a a1b a1c a1d a1ef a1e a1ff a1f a1g a1hf a1h a1i a1j u0 R = VF ⟨Try.prog, 61, [3], [(9, ⟨[(7, .one (.raw (.int .i64)))], []⟩)], [], [], [], [], [23, 32, 43, 48, 57]⟩ ((Try.f63.body).getD .skip) [.tmp 4] [(.raw (.pointer a0)), (.agg [(pI a1a), (pI a1b), (pB a1c), (pS a1d), (.list 6 a1ef a1e), (.list 6 a1ff a1f), (pB a1g), (.list 7 a1hf a1h), (pI a1i), (.raw (.pointer a1j))])] u0 R := by kernel_rfl

theorem G_order_Set_book_page_alpha_number_alpha_memory_Put.c {a0 : Option Addr} {a1a : Int} {a1b : Int} {a1c : Bool} {a1d : ByteArray} {a1ef : Fl} {a1e : List (List PV)} {a1ff : Fl} {a1f : List (List PV)} {a1g : Bool} {a1hf : Fl} {a1h : List (List PV)} {a1i : Int} {a1j : Option Addr} {u0 : Mem} {K : PV → Mem → Prop} (h : G_order_Set_book_page_alpha_number_alpha_memory_Put.sh a0 a1a a1b a1c a1d a1ef a1e a1ff a1f a1g a1hf a1h a1i a1j u0 K) : CallP Try.prog 63 [(.raw (.pointer a0)), (.agg [(pI a1a), (pI a1b), (pB a1c), (pS a1d), (.list 6 a1ef a1e), (.list 6 a1ff a1f), (pB a1g), (.list 7 a1hf a1h), (pI a1i), (.raw (.pointer a1j))])] u0 K :=
  VF_sound (E := ⟨Try.prog, 61, [3], [(9, ⟨[(7, .one (.raw (.int .i64)))], []⟩)], [], [], [], [], [23, 32, 43, 48, 57]⟩) (rs := [.tmp 4]) Try.func63 rfl rfl rfl (by kernel_rfl) (by kernel_rfl) (G_order_Set_book_page_alpha_number_alpha_memory_Put.ok a0 a1a a1b a1c a1d a1ef a1e a1ff a1f a1g a1hf a1h a1i a1j u0 K ▸ h)


/-- (*ponder/order.Set[ponder/book.page[ponder/alpha.number, ponder/alpha.memory]]).Drop -/
def G_order_Set_book_page_alpha_number_alpha_memory_Drop.sh (a0 : Option Addr) (a1a : Int) (a1b : Int) (a1c : Bool) (a1d : ByteArray) (a1ef : Fl) (a1e : List (List PV)) (a1ff : Fl) (a1f : List (List PV)) (a1g : Bool) (a1hf : Fl) (a1h : List (List PV)) (a1i : Int) (a1j : Option Addr) (u0 : Mem) (R : PV → Mem → Prop) : Prop :=
  CIf (Option.isNone a0)
  (R (pB false) u0)
  (CallP Try.prog 79 [(.raw (.pointer a0)), (.agg [(pI a1a), (pI a1b), (pB a1c), (pS a1d), (.list 6 .sh a1e), (.list 6 .sh a1f), (pB a1g), (.list 7 .sh a1h), (pI a1i), (.raw (.pointer a1j))])] u0 fun v u =>
    ∃ (x13p : Int), ∃ (x13q : Bool), v = (.tup [(pI x13p), (pB x13q)]) ∧
    CIf (!x13q)
    (R (pB false) u)
    (CallP Try.prog 80 [(.raw (.pointer a0))] u fun v_1 u_1 =>
       v_1 = (.tup []) ∧
      LoopI (α := Int) (fun next s u_2 =>
        nn a0
        (withPtrP (.raw (.pointer a0)) fun b o =>
          ∃ (x26 : Option Addr) (x26n x26c : Nat), rdM u_2 b o 1 = some [(.raw (.slice x26 x26n x26c))] ∧
          CIf (decide (((IntKind.wrap .i64 (s + (1))) : Int) < ((x26n : Nat) : Int)))
          (nn a0
            (withPtrP (.raw (.pointer a0)) fun b_1 o_1 =>
              ∃ (x34 : Option Addr) (x34n x34c : Nat), rdM u_2 b_1 o_1 1 = some [(.raw (.slice x34 x34n x34c))] ∧
              nn a0
              (withPtrP (.raw (.pointer a0)) fun b_2 o_2 =>
                ∃ (x39 : Option Addr) (x39n x39c : Nat), rdM u_2 b_2 o_2 1 = some [(.raw (.slice x39 x39n x39c))] ∧
                withSl x39 fun b_3 o_3 =>
                (0 : Int) ≤ (IntKind.wrap .i64 (s + (1))) ∧ (IntKind.wrap .i64 (s + (1))) < ((x39n : Nat) : Int) ∧
                ∃ (x43a : Int), ∃ (x43b : Int), ∃ (x43c : Bool), ∃ (x43d : ByteArray), ∃ (x43ef : Fl) (x43e : List (List PV)), ∃ (x43ff : Fl) (x43f : List (List PV)), ∃ (x43g : Bool), ∃ (x43hf : Fl) (x43h : List (List PV)), ∃ (x43i : Int), ∃ (x43j : Option Addr), rdM u_2 b_3 (o_3 + Int.toNat (IntKind.wrap .i64 (s + (1))) * 10) 10 = some [(pI x43a), (pI x43b), (pB x43c), (pS x43d), (.list 6 x43ef x43e), (.list 6 x43ff x43f), (pB x43g), (.list 7 x43hf x43h), (pI x43i), (.raw (.pointer x43j))] ∧
                withSl x34 fun b_4 o_4 =>
                (0 : Int) ≤ s ∧ s < ((x34n : Nat) : Int) ∧
                stM b_4 (o_4 + Int.toNat s * 10) [(pI x43a), (pI x43b), (pB x43c), (pS x43d), (.list 6 x43ef x43e), (.list 6 x43ff x43f), (pB x43g), (.list 7 x43hf x43h), (pI x43i), (.raw (.pointer x43j))] u_2 fun u_3 =>
                next (IntKind.wrap .i64 (s + (1))) u_3)))
          (nn a0
            (withPtrP (.raw (.pointer a0)) fun b_5 o_5 =>
              ∃ (x49 : Option Addr) (x49n x49c : Nat), rdM u_2 b_5 o_5 1 = some [(.raw (.slice x49 x49n x49c))] ∧
              nn a0
              (withPtrP (.raw (.pointer a0)) fun b_6 o_6 =>
                ∃ (x53 : Option Addr) (x53n x53c : Nat), rdM u_2 b_6 o_6 1 = some [(.raw (.slice x53 x53n x53c))] ∧
                noSpot x49 ∧ (0 : Int) ≤ (0 : Int) ∧ (0 : Int) ≤ (IntKind.wrap .i64 (((x53n : Nat) : Int) - (1))) ∧ (IntKind.wrap .i64 (((x53n : Nat) : Int) - (1))) ≤ ((x49c : Nat) : Int) ∧ ((x49c : Nat) : Int) ≤ ((x49c : Nat) : Int) ∧
                nn a0
                (withPtrP (.raw (.pointer a0)) fun b_7 o_7 =>
                  stM b_7 o_7 [(.raw (.slice (slA x49 (Int.toNat (0 : Int)) (Int.toNat ((x49c : Nat) : Int)) 10) (Int.toNat (IntKind.wrap .i64 (((x53n : Nat) : Int) - (1))) - Int.toNat (0 : Int)) (Int.toNat ((x49c : Nat) : Int) - Int.toNat (0 : Int))))] u_2 fun u_4 =>
                  R (pB true) u_4))))))
      x13p u_1))

theorem G_order_Set_book_page_alpha_number_alpha_memory_Drop.ok (a0 : Option Addr) (a1a : Int) (a1b : Int) (a1c : Bool) (a1d : ByteArray) (a1ef : Fl) (a1e : List (List PV)) (a1ff : Fl) (a1f : List (List PV)) (a1g : Bool) (a1hf : Fl) (a1h : List (List PV)) (a1i : Int) (a1j : Option Addr) (u0 : Mem) (R : PV → Mem → Prop) : G_order_Set_book_page_alpha_number_alpha_memory_Drop.sh a0 a1a a1b a1c a1d a1ef a1e a1ff a1f a1g a1hf a1h a1i a1j u0 R = VF ⟨Try.prog, 59, [3], [(8, ⟨[(7, .one (.raw (.int .i64)))], []⟩)], [], [], [], [], [26, 34, 39, 49, 53, 56]⟩ ((Try.f64.body).getD .skip) [.tmp 4] [(.raw (.pointer a0)), (.agg [(pI a1a), (pI a1b), (pB a1c), (pS a1d), (.list 6 a1ef a1e), (.list 6 a1ff a1f), (pB a1g), (.list 7 a1hf a1h), (pI a1i), (.raw (.pointer a1j))])] u0 R := by kernel_rfl

theorem G_order_Set_book_page_alpha_number_alpha_memory_Drop.c {a0 : Option Addr} {a1a : Int} {a1b : Int} {a1c : Bool} {a1d : ByteArray} {a1ef : Fl} {a1e : List (List PV)} {a1ff : Fl} {a1f : List (List PV)} {a1g : Bool} {a1hf : Fl} {a1h : List (List PV)} {a1i : Int} {a1j : Option Addr} {u0 : Mem} {K : PV → Mem → Prop} (h : G_order_Set_book_page_alpha_number_alpha_memory_Drop.sh a0 a1a a1b a1c a1d a1ef a1e a1ff a1f a1g a1hf a1h a1i a1j u0 K) : CallP Try.prog 64 [(.raw (.pointer a0)), (.agg [(pI a1a), (pI a1b), (pB a1c), (pS a1d), (.list 6 a1ef a1e), (.list 6 a1ff a1f), (pB a1g), (.list 7 a1hf a1h), (pI a1i), (.raw (.pointer a1j))])] u0 K :=
  VF_sound (E := ⟨Try.prog, 59, [3], [(8, ⟨[(7, .one (.raw (.int .i64)))], []⟩)], [], [], [], [], [26, 34, 39, 49, 53, 56]⟩) (rs := [.tmp 4]) Try.func64 rfl rfl rfl (by kernel_rfl) (by kernel_rfl) (G_order_Set_book_page_alpha_number_alpha_memory_Drop.ok a0 a1a a1b a1c a1d a1ef a1e a1ff a1f a1g a1hf a1h a1i a1j u0 K ▸ h)


/-- (*ponder/book.Map[ponder/alpha.number, ponder/api.Elem]).All$1 -/
def G_book_Map_alpha_number_api_Elem_All_1.sh (a0 : Fn) (a0a a0b : List PV) (c0 : List PV) (u0 : Mem) (R : PV → Mem → Prop) : Prop :=
  ∀ (b2 : Nat), u0 b2 = none →
  ∃ (x4 : Option Addr), rowM c0 0 1 = some [(.raw (.pointer x4))] ∧
  CIf (Option.isNone x4)
  (R (.tup []) (Mem.set u0 b2 (some (.cells 95 [(.fn a0 a0a a0b)]))))
  (∃ (x6 : Option Addr), rowM c0 0 1 = some [(.raw (.pointer x6))] ∧
    nn x6
    (withPtrP (.raw (.pointer x6)) fun b o =>
      ∃ (x9 : Option Addr), rdM (Mem.set u0 b2 (some (.cells 95 [(.fn a0 a0a a0b)]))) b o 1 = some [(.raw (.pointer x9))] ∧
      CallP Try.prog 66 [(.raw (.pointer x9))] (Mem.set u0 b2 (some (.cells 95 [(.fn a0 a0a a0b)]))) fun v u =>
      ∃ (x10 : Fn) (x10a x10b : List PV), v = (.fn x10 x10a x10b) ∧
      RangeP Try.prog (.fn x10 x10a x10b) (fun vs RR u_1 =>
        ∃ (x11a : Int), ∃ (x11b : Int), ∃ (x11c : ByteArray), ∃ (x11d : Int), ∃ (x11e : Int), ∃ (x11f : ByteArray), ∃ (x11g : Int), ∃ (x11h : Int), ∃ (x11i : ByteArray), ∃ (x11j : Int), ∃ (x11k : Bool), ∃ (x11l : Bool), ∃ (x11m : Int), vs = [(.agg [(pI x11a), (pI x11b), (pS x11c), (pI x11d), (pI x11e), (pS x11f), (pI x11g), (pI x11h), (pS x11i), (pI x11j), (pB x11k), (pB x11l), (pI x11m)])] ∧
        ∃ (x12 : Fn) (x12a x12b : List PV), rdM u_1 b2 0 1 = some [(.fn x12 x12a x12b)] ∧
        CallVP Try.prog (.fn x12 x12a x12b) [(pI x11a), (.agg [(pI x11b), (pS x11c), (pI x11d), (pI x11e), (pS x11f), (pI x11g), (pI x11h), (pS x11i), (pI x11j), (pB x11k), (pB x11l), (pI x11m)])] u_1 fun v_1 u_3 =>
        ∃ (x17 : Bool), v_1 = (pB x17) ∧
        CIf (!x17)
        (RR (some .ret) u_3)
        (RR none u_3))
      (fun p u_2 =>
        PK p
        (R (.tup []) u_2)
        (R (.tup []) u_2)
        [])
      u))

theorem G_book_Map_alpha_number_api_Elem_All_1.ok (a0 : Fn) (a0a a0b : List PV) (c0 : List PV) (u0 : Mem) (R : PV → Mem → Prop) : G_book_Map_alpha_number_api_Elem_All_1.sh a0 a0a a0b c0 u0 R = VF ⟨Try.prog, 19, [3], [], [], [(11, [105])], [], [], []⟩ ((Try.f65.body).getD .skip) [] [(.fn a0 a0a a0b), (.fptr c0 0)] u0 R := by kernel_rfl

theorem G_book_Map_alpha_number_api_Elem_All_1.c {a0 : Fn} {a0a a0b : List PV} {c0 : List PV} {u0 : Mem} {K : PV → Mem → Prop} (h : G_book_Map_alpha_number_api_Elem_All_1.sh a0 a0a a0b c0 u0 K) : CallP Try.prog 65 [(.fn a0 a0a a0b), (.fptr c0 0)] u0 K :=
  VF_sound (E := ⟨Try.prog, 19, [3], [], [], [(11, [105])], [], [], []⟩) (rs := []) Try.func65 rfl rfl rfl (by kernel_rfl) (by kernel_rfl) (G_book_Map_alpha_number_api_Elem_All_1.ok a0 a0a a0b c0 u0 K ▸ h)


end Go.Proofs.Ytdiimonfmdbclaa
