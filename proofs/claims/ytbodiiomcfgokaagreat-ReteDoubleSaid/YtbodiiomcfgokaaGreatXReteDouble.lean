/- What is proved: the statement ReteDouble, as it is given, for every input that it speaks of. Conditions: none. -/
import Derived.Test.YtbodiiomcfgokaaGreatB14
import Derived.Test.YtbodiiomcfgokaaGreatChecked
import Derived.KernelRfl
import Derived.ChangeArms
import Derived.WideShapes
import Derived.DataReads
import Derived.WalkKit
import Derived.ProofKit
import Derived.OpenShut
import Derived.ShutString
import Derived.ChangeOld
import Derived.Below
set_option linter.all false
namespace Go.Proofs.YtbodiiomcfgokaaGreat
open Go.Proofs.Tryz Go.aK
variable {u0:Mem} {K:Kq}
set_option maxRecDepth 100000
theorem pG.c{C g:ByteArray}{m8 m9 n0 n1 n2 H:Fl}{D E i j l G:Lq}{F:Int}{f k:Bool}(h: bZ (α:=Bool) (λv=> aa prog 15 [.agg [pS C,.list 7 .sh D,.list 19 .sh E]] u0 λv9 b8=> ∃d5,v9=(pB d5)/\ ab d5 (v true b8) (aa prog 16 [.list 12 H G,pI 30] b8 λw0 c0=> ∃d6,w0=(pB d6)/\ ab (!d6) (v true c0) (aa prog 17 [.list 7 .nr [[pI F,pB f,pS g,.list 6 .sh i,.list 6 .sh j,pB k,.list 7 .sh l]],pI 3,pI 0] c0 λx1 c2=> ∃d7,x1=(pI d7)/\ ab (decide (d7>1)) (v true c2) (aa prog 18 [.list 7 .nr [[pI F,pB f,pS g,.list 6 .sh i,.list 6 .sh j,pB k,.list 7 .sh l]]] c2 λy2 s2=> ∃d8,y2=(pB d8)/\ v d8 s2)))) (λp5 b7=> ab p5 (aa prog 19 [] b7 λy7 t2=> ∃d9,y7=(pB d9)/\ K (pB d9) t2) (aa prog 20 [.agg [pS C,.list 7 .sh D,.list 19 .sh E]] b7 λy8 t=> ∃z3 z4 a z5 b,y8=(.agg [pS z3,.list 7 z4 a,.list 19 z5 b])/\ bZ (α:=Option Addr×Option Addr) (λd=> (dz prog 20 [.agg [pS ⟨#[97]⟩,.list 7 .sh a,.list 19 .sh b]] t λy9 I=> ∃m o n q p,y9=(.agg [pS m,.list 7 o n,.list 19 q p])/\ (aa prog 20 [.agg [pS ⟨#[97]⟩,.list 7 .sh a,.list 19 .sh b]] (Mem.or t I) λz0 d2=> ∃U W V Y X,z0=(.agg [pS U,.list 7 W V,.list 19 Y X])/\ (bJ d2 25 [pS ⟨#[]⟩,.list 7 .nil [],.list 19 .nil []] λa3 p6=> bJ p6 25 [pS ⟨#[]⟩,.list 7 .nil [],.list 19 .nil []] λb0 p7=> stM a3 0 [pS m,.list 7 o n,.list 19 q p] p7 λp8=> stM b0 0 [pS U,.list 7 W V,.list 19 Y X] p8 λp9=> d ((some ⟨a3,0,none⟩),(some ⟨b0,0,none⟩)) p9)/\ (bJ d2 25 [pS ⟨#[]⟩,.list 7 .nil [],.list 19 .nil []] λb1 q0=> bJ q0 25 [pS ⟨#[]⟩,.list 7 .nil [],.list 19 .nil []] λa4 q1=> stM a4 0 [pS m,.list 7 o n,.list 19 q p] q1 λq2=> stM b1 0 [pS U,.list 7 W V,.list 19 Y X] q2 λq3=> d ((some ⟨a4,0,none⟩),(some ⟨b1,0,none⟩)) q3))/\ (bJ (Mem.or t I) 25 [pS ⟨#[]⟩,.list 7 .nil [],.list 19 .nil []] λw b9=> (aa prog 20 [.agg [pS ⟨#[97]⟩,.list 7 .sh a,.list 19 .sh b]] b9 λz1 q4=> ∃f0 g3 g0 i3 i0,z1=(.agg [pS f0,.list 7 g3 g0,.list 19 i3 i0])/\ bJ q4 25 [pS ⟨#[]⟩,.list 7 .nil [],.list 19 .nil []] λb2 q5=> stM w 0 [pS m,.list 7 o n,.list 19 q p] q5 λq6=> stM b2 0 [pS f0,.list 7 g3 g0,.list 19 i3 i0] q6 λq7=> d ((some ⟨w,0,none⟩),(some ⟨b2,0,none⟩)) q7)/\ (bJ b9 25 [pS ⟨#[]⟩,.list 7 .nil [],.list 19 .nil []] λb3 q8=> aa prog 20 [.agg [pS ⟨#[97]⟩,.list 7 .sh a,.list 19 .sh b]] q8 λz2 q9=> ∃f2 g5 g4 i5 i4,z2=(.agg [pS f2,.list 7 g5 g4,.list 19 i5 i4])/\ stM w 0 [pS m,.list 7 o n,.list 19 q p] q9 λr0=> stM b3 0 [pS f2,.list 7 g5 g4,.list 19 i5 i4] r0 λr1=> d ((some ⟨w,0,none⟩),(some ⟨b3,0,none⟩)) r1))/\ (bJ (Mem.or t I) 25 [pS ⟨#[]⟩,.list 7 .nil [],.list 19 .nil []] λx c1=> (aa prog 20 [.agg [pS ⟨#[97]⟩,.list 7 .sh a,.list 19 .sh b]] c1 λw1 r2=> ∃f3 g7 g6 i7 i6,w1=(.agg [pS f3,.list 7 g7 g6,.list 19 i7 i6])/\ bJ r2 25 [pS ⟨#[]⟩,.list 7 .nil [],.list 19 .nil []] λa5 r3=> stM a5 0 [pS m,.list 7 o n,.list 19 q p] r3 λr4=> stM x 0 [pS f3,.list 7 g7 g6,.list 19 i7 i6] r4 λr5=> d ((some ⟨a5,0,none⟩),(some ⟨x,0,none⟩)) r5)/\ (bJ c1 25 [pS ⟨#[]⟩,.list 7 .nil [],.list 19 .nil []] λa6 r6=> aa prog 20 [.agg [pS ⟨#[97]⟩,.list 7 .sh a,.list 19 .sh b]] r6 λw2 r7=> ∃f4 g9 g8 i9 i8,w2=(.agg [pS f4,.list 7 g9 g8,.list 19 i9 i8])/\ stM a6 0 [pS m,.list 7 o n,.list 19 q p] r7 λr8=> stM x 0 [pS f4,.list 7 g9 g8,.list 19 i9 i8] r8 λr9=> d ((some ⟨a6,0,none⟩),(some ⟨x,0,none⟩)) r9)))/\ (bJ t 25 [pS ⟨#[]⟩,.list 7 .nil [],.list 19 .nil []] λr y=> (dz prog 20 [.agg [pS ⟨#[97]⟩,.list 7 .sh a,.list 19 .sh b]] y λw3 c3=> ∃J N M R Q,w3=(.agg [pS J,.list 7 N M,.list 19 R Q])/\ (aa prog 20 [.agg [pS ⟨#[97]⟩,.list 7 .sh a,.list 19 .sh b]] (Mem.or y c3) λw4 s0=> ∃f5 h1 h0 j1 j0,w4=(.agg [pS f5,.list 7 h1 h0,.list 19 j1 j0])/\ bJ s0 25 [pS ⟨#[]⟩,.list 7 .nil [],.list 19 .nil []] λb4 s1=> stM r 0 [pS J,.list 7 N M,.list 19 R Q] s1 λs3=> stM b4 0 [pS f5,.list 7 h1 h0,.list 19 j1 j0] s3 λs4=> d ((some ⟨r,0,none⟩),(some ⟨b4,0,none⟩)) s4)/\ (bJ (Mem.or y c3) 25 [pS ⟨#[]⟩,.list 7 .nil [],.list 19 .nil []] λb5 s5=> aa prog 20 [.agg [pS ⟨#[97]⟩,.list 7 .sh a,.list 19 .sh b]] s5 λw5 s6=> ∃f6 h3 h2 j3 j2,w5=(.agg [pS f6,.list 7 h3 h2,.list 19 j3 j2])/\ stM r 0 [pS J,.list 7 N M,.list 19 R Q] s6 λs7=> stM b5 0 [pS f6,.list 7 h3 h2,.list 19 j3 j2] s7 λs8=> d ((some ⟨r,0,none⟩),(some ⟨b5,0,none⟩)) s8))/\ (bJ y 25 [pS ⟨#[]⟩,.list 7 .nil [],.list 19 .nil []] λb6 c4=> dz prog 20 [.agg [pS ⟨#[97]⟩,.list 7 .sh a,.list 19 .sh b]] c4 λw6 s9=> ∃e0 e3 e2 e7 e6,w6=(.agg [pS e0,.list 7 e3 e2,.list 19 e7 e6])/\ aa prog 20 [.agg [pS ⟨#[97]⟩,.list 7 .sh a,.list 19 .sh b]] (Mem.or c4 s9) λw7 t0=> ∃f7 h5 h4 j5 j4,w7=(.agg [pS f7,.list 7 h5 h4,.list 19 j5 j4])/\ stM r 0 [pS e0,.list 7 e3 e2,.list 19 e7 e6] t0 λt1=> stM b6 0 [pS f7,.list 7 h5 h4,.list 19 j5 j4] t1 λt3=> d ((some ⟨r,0,none⟩),(some ⟨b6,0,none⟩)) t3))/\ (bJ t 25 [pS ⟨#[]⟩,.list 7 .nil [],.list 19 .nil []] λs z=> (dz prog 20 [.agg [pS ⟨#[97]⟩,.list 7 .sh a,.list 19 .sh b]] z λw8 c5=> ∃L P O T S,w8=(.agg [pS L,.list 7 P O,.list 19 T S])/\ (aa prog 20 [.agg [pS ⟨#[97]⟩,.list 7 .sh a,.list 19 .sh b]] (Mem.or z c5) λw9 t4=> ∃f8 h7 h6 j7 j6,w9=(.agg [pS f8,.list 7 h7 h6,.list 19 j7 j6])/\ bJ t4 25 [pS ⟨#[]⟩,.list 7 .nil [],.list 19 .nil []] λa7 t5=> stM a7 0 [pS L,.list 7 P O,.list 19 T S] t5 λt6=> stM s 0 [pS f8,.list 7 h7 h6,.list 19 j7 j6] t6 λt7=> d ((some ⟨a7,0,none⟩),(some ⟨s,0,none⟩)) t7)/\ (bJ (Mem.or z c5) 25 [pS ⟨#[]⟩,.list 7 .nil [],.list 19 .nil []] λa8 t8=> aa prog 20 [.agg [pS ⟨#[97]⟩,.list 7 .sh a,.list 19 .sh b]] t8 λx0 t9=> ∃f9 h9 h8 j9 j8,x0=(.agg [pS f9,.list 7 h9 h8,.list 19 j9 j8])/\ stM a8 0 [pS L,.list 7 P O,.list 19 T S] t9 λu1=> stM s 0 [pS f9,.list 7 h9 h8,.list 19 j9 j8] u1 λu2=> d ((some ⟨a8,0,none⟩),(some ⟨s,0,none⟩)) u2))/\ (bJ z 25 [pS ⟨#[]⟩,.list 7 .nil [],.list 19 .nil []] λa9 c6=> dz prog 20 [.agg [pS ⟨#[97]⟩,.list 7 .sh a,.list 19 .sh b]] c6 λx2 u3=> ∃e1 e5 e4 e9 e8,x2=(.agg [pS e1,.list 7 e5 e4,.list 19 e9 e8])/\ aa prog 20 [.agg [pS ⟨#[97]⟩,.list 7 .sh a,.list 19 .sh b]] (Mem.or c6 u3) λx3 u4=> ∃f1 g2 g1 i2 i1,x3=(.agg [pS f1,.list 7 g2 g1,.list 19 i2 i1])/\ stM a9 0 [pS e1,.list 7 e5 e4,.list 19 e9 e8] u4 λu5=> stM s 0 [pS f1,.list 7 g2 g1,.list 19 i2 i1] u5 λu6=> d ((some ⟨a9,0,none⟩),(some ⟨s,0,none⟩)) u6))) (λe u9=> aF (pA e.1) λn3 o5=> stM n3 o5 [pS ⟨#[98]⟩] u9 λu7=> aF (pA e.2) λn4 o6=> stM n4 o6 [pS ⟨#[99]⟩] u7 λc7=> aF (pA e.1) λn5 o7=> ∃k0 Z,aB c7 n5 (o7+1) 1=some [.list 7 k0 Z]/\ aV false 7 112 k0 Z [[pI 3,pB false,pS ⟨#[]⟩,.list 6 .sh [],.list 6 .sh [],pB false,.list 7 .sh [[pI 2,pB f,pS g,.list 6 .sh i,.list 6 .sh j,pB k,.list 7 .sh l]]]] c7 λo3 u8=> aF (pA e.1) λn6 o8=> stM n6 (o8+1) [.list 7 o3 (Z++[[pI 3,pB false,pS ⟨#[]⟩,.list 6 .sh [],.list 6 .sh [],pB false,.list 7 .sh [[pI 2,pB f,pS g,.list 6 .sh i,.list 6 .sh j,pB k,.list 7 .sh l]]]])] u8 λc8=> aF (pA e.2) λn7 o9=> ∃k1 a0,aB c8 n7 (o9+1) 1=some [.list 7 k1 a0]/\ aV false 7 112 k1 a0 [[pI 2,pB f,pS g,.list 6 .sh i,.list 6 .sh j,pB k,.list 7 .sh l]] c8 λo4 v0=> aF (pA e.2) λn8 p0=> stM n8 (p0+1) [.list 7 o4 (a0++[[pI 2,pB f,pS g,.list 6 .sh i,.list 6 .sh j,pB k,.list 7 .sh l]])] v0 λc9=> aF (pA e.1) λn9 p1=> ∃k2 z6 k3 z7 k4,aB c9 n9 p1 3=some [pS k2,.list 7 z6 k3,.list 19 z7 k4]/\ aa prog 21 [.agg [pS k2,.list 7 .sh k3,.list 19 .sh k4]] c9 λx4 A=> ∃z8 k5,x4=(.aD [pI z8,pI k5])/\ ab (k5 != 0) (aa prog 19 [] A λx5 v1=> ∃k6,x5=(pB k6)/\ K (pB k6) v1) (aF (pA e.1) λo0 p2=> ∃k7 z9 k8 A0 k9,aB A o0 p2 3=some [pS k7,.list 7 z9 k8,.list 19 A0 k9]/\ aF (pA e.2) λo1 p3=> ∃l0 A1 l1 A2 l2,aB A o1 p3 3=some [pS l0,.list 7 A1 l1,.list 19 A2 l2]/\ aa prog 22 [.list 3 .nr [[pS ⟨#[97]⟩,.list 7 .sh a,.list 19 .sh b],[pS k7,.list 7 .sh k8,.list 19 .sh k9],[pS l0,.list 7 .sh l1,.list 19 .sh l2]],.list 12 H G] A λx6 B=> ∃u l3,x6=(.aD [pA u,pA l3])/\ ab (Option.isNone u) (K (pB false) B) (nP l3 λo2 p4=> ∃A3 l4,aB B o2 (p4+2) 1=some [.list 3 A3 l4]/\ ab (((List.length l4:Nat):Int) != 3) (aa prog 19 [] B λx7 v2=> ∃l5,x7=(pB l5)/\ K (pB l5) v2) (aa prog 24 [pA u,pS ⟨#[97]⟩] B λx8 v3=> ∃l6 l7 l8,x8=(.fn l6 l7 l8)/\ aa prog 23 [.fn l6 l7 l8] v3 λx9 v4=> ∃A4 l9,x9=(.list 2 A4 l9)/\ aa prog 24 [pA u,pS ⟨#[98]⟩] v4 λy0 v5=> ∃m0 m1 m2,y0=(.fn m0 m1 m2)/\ aa prog 23 [.fn m0 m1 m2] v5 λy1 v6=> ∃m3 a1,y1=(.list 2 m3 a1)/\ aa prog 24 [pA u,pS ⟨#[99]⟩] v6 λy3 v7=> ∃m4 m5 m6,y3=(.fn m4 m5 m6)/\ aa prog 23 [.fn m4 m5 m6] v7 λy4 d0=> ∃m7 a2,y4=(.list 2 m7 a2)/\ ab (((List.length l9:Nat):Int) == (IntKind.wrap .i64 (((List.length a1:Nat):Int)+((List.length a2:Nat):Int)))) (aa prog 25 [.list 2 m3 a1,.list 2 m7 a2] d0 λy5 d1=> ∃d3,y5=(pB d3)/\ ab d3 (aa prog 19 [] d1 λy6 v8=> ∃d4,y6=(pB d4)/\ K (pB d4) v8) (K (pB false) d1)) (K (pB false) d0)))))))):aa prog 3 [.agg [pS C,.list 7 m8 D,.list 19 m9 E],.agg [pI F,pB f,pS g,.list 6 n0 i,.list 6 n1 j,pB k,.list 7 n2 l],.list 12 H G] u0 K:= VC [3,4] [] [(2,⟨[(33,.one (.raw .bool))],[]⟩),(7,⟨[(7,.one (.raw .ptr)),(8,.one (.raw .ptr))],[]⟩)] [] [] [] [] func3 h
theorem cD.c{b:Fl}{a:Lq}{d:Int}(h: aa prog 69 [.list 12 b a,pI d] u0 λg f=> ∃e,g=(pB e)/\ K (pB e) f):aa prog 16 [.list 12 b a,pI d] u0 K:= VC [] [] [] [] [] [] [] func16 h
theorem pw.c{a:Option Addr}{b:ByteArray}(h: K (.fn (.func 74) [] [.bn [pA a] 0,.bn [pS b] 0]) u0):aa prog 24 [pA a,pS b] u0 K:= VC [] [] [] [] [2,3] [] [] func24 h
theorem uK.c{q r:Fl}{d e:Lq}(h: ak (α:=Int) (λs a i=> ab (decide (a<((List.length d:Nat):Int))) (ak (α:=Int) (λt b j=> ab (decide (b<((List.length e:Nat):Int))) (0<=a/\∃(f:List PV),(d)[Int.toNat a]?=some f/\ ∃m l,ay f 1 1=some [.list 1 m l]/\ 0<=b/\∃(g:List PV),(e)[Int.toNat b]?=some g/\ ∃o n,ay g 1 1=some [.list 1 o n]/\ aa prog 77 [.list 1 m l,.list 1 o n] j λu k=> ∃p,u=(pB p)/\ ab p (K (pB false) k) (t (IntKind.wrap .i64 (b+1)) k)) (s (IntKind.wrap .i64 (a+1)) j)) (0) i) (K (pB true) i)) (0) u0):aa prog 25 [.list 2 q d,.list 2 r e] u0 K:= VC [] [(2,⟨[(5,.one (.raw (.int .i64)))],[]⟩),(5,⟨[(6,.one (.raw (.int .i64)))],[]⟩)] [] [] [] [] [] func25 h
theorem cB.c{m:Fl}{b:Lq}{e:Int}(h: ab (decide (((List.length b:Nat):Int)>e)) (K (pB false) u0) (ak (α:=Int) (λn a d=> ab (decide (a<((List.length b:Nat):Int))) (0<=a/\∃(f:List PV),(b)[Int.toNat a]?=some f/\ ∃j,ay f 1 1=some [pS j]/\ ab (decide ((((ByteArray.size j:Nat):Int):Int)>100)) (K (pB false) d) (0<=a/\∃(g:List PV),(b)[Int.toNat a]?=some g/\ ∃k,ay g 4 1=some [pS k]/\ ab (decide ((((ByteArray.size k:Nat):Int):Int)>100)) (K (pB false) d) (0<=a/\∃(i:List PV),(b)[Int.toNat a]?=some i/\ ∃l,ay i 7 1=some [pS l]/\ ab (decide ((((ByteArray.size l:Nat):Int):Int)>100)) (K (pB false) d) (n (IntKind.wrap .i64 (a+1)) d)))) (K (pB true) d)) (0) u0)):aa prog 69 [.list 12 m b,pI e] u0 K:= VC [] [(4,⟨[(5,.one (.raw (.int .i64)))],[]⟩)] [] [] [] [] [] func69 h
theorem ma.c{j:Fn}{k l o b:List PV}(h: bZ (α:=Option Addr×Bool) (λi=> ∃S,ay o 0 1=some [pA S]/\ nP S λT W=> ∃e,aB u0 T (W+6) 1=some [pA e]/\ ∃f,ay b 0 1=some [pS f]/\ (aa prog 75 [pA e,pS f] u0 λa5 Y=> ∃t y v C z G D H,a5=(.aD [.agg [pS t,.list 7 y v,.list 19 C z,.list 1 G D],pB H])/\ bJ Y 129 [pS ⟨#[]⟩,.list 7 .nil [],.list 19 .nil [],.list 1 .nil []] λm Z=> stM m 0 [pS t,.list 7 y v,.list 19 C z,.list 1 G D] Z λa0=> i ((some ⟨m,0,none⟩),H) a0)/\ (bJ u0 129 [pS ⟨#[]⟩,.list 7 .nil [],.list 19 .nil [],.list 1 .nil []] λn a1=> aa prog 75 [pA e,pS f] a1 λa6 a2=> ∃u x w B A F E I,a6=(.aD [.agg [pS u,.list 7 x w,.list 19 B A,.list 1 F E],pB I])/\ stM n 0 [pS u,.list 7 x w,.list 19 B A,.list 1 F E] a2 λa3=> i ((some ⟨n,0,none⟩),I) a3)) (λq d=> ab (!q.2) (K (.aD []) d) (∃J,ay b 0 1=some [pS J]/\ aF (pA q.1) λU X=> ∃L a9 M b0 N b1 O,aB d U X 4=some [pS L,.list 7 a9 M,.list 19 b0 N,.list 1 b1 O]/\ aa prog 76 [pS J,.agg [pS L,.list 7 .sh M,.list 19 .sh N,.list 1 .sh O]] d λa7 a4=> ∃b2 g,a7=(.list 2 b2 g)/\ ak (α:=Int) (λV a r=> ab (decide (a<((List.length g:Nat):Int))) (0<=a/\∃(p:List PV),(g)[Int.toNat a]?=some p/\ ∃P b3 Q,ay p 0 2=some [pS P,.list 1 b3 Q]/\ bY prog (.fn j k l) [.agg [pS P,.list 1 .sh Q]] r λa8 s=> ∃R,a8=(pB R)/\ ab (!R) (K (.aD []) s) (V (IntKind.wrap .i64 (a+1)) s)) (K (.aD []) r)) (0) a4))):aa prog 74 [.fn j k l,.bn o 0,.bn b 0] u0 K:= VC [7] [(3,⟨[(23,.one (.raw (.int .i64)))],[]⟩)] [(1,⟨[(4,.one (.raw .ptr)),(5,.one (.raw .bool))],[]⟩)] [] [] [] [] func74 h
theorem dK.c{k l:Fl}{b d:Lq}(h: ab (((List.length b:Nat):Int) != ((List.length d:Nat):Int)) (K (pB false) u0) (ak (α:=Int) (λm a e=> ab (decide (a<((List.length b:Nat):Int))) (0<=a/\∃(f:List PV),(b)[Int.toNat a]?=some f/\ ∃i,ay f 0 1=some [pI i]/\ 0<=a/\∃(g:List PV),(d)[Int.toNat a]?=some g/\ ∃j,ay g 0 1=some [pI j]/\ ab (i != j) (K (pB false) e) (m (IntKind.wrap .i64 (a+1)) e)) (K (pB true) e)) (0) u0)):aa prog 77 [.list 1 k b,.list 1 l d] u0 K:= VC [] [(4,⟨[(5,.one (.raw (.int .i64)))],[]⟩)] [] [] [] [] [] func77 h
end Go.Proofs.YtbodiiomcfgokaaGreat
namespace Go.aK
open Go.RowKit
section
variable {P:Program} {w:World} {n:Nat} {t:TypeId} {cs:List Value}
section
variable {H:Type} {enc:TypeId×Value->H} {r:Reach} {base:Nat} {v:Value} {d:DataW H} {p:List MemPlace}
theorem qL{T:Type}{pv:T->List PV}{Q:T->Prop}{fs:Array Field}(ht:P.underlying t=some (.struct fs))(he:∀m cs,Reads P w m t cs->∃s,bF (gA w) (pv s) cs/\Q s)(hv:Value.okWide P w r base t v)(h:DataW.Trod enc P w 0 (λ_=>true) true t v d p):
  ∃s,cy (gA w) (.agg (pv s)) v/\Q s:=by
 simp only[Value.okWide,ht]at hv
 obtain⟨cs,rfl,_,_⟩:=hv
 obtain⟨n,hn⟩:=Reads.of h
 obtain⟨s,e,hq⟩:=he n _ hn
 exact⟨s,e.pT,hq⟩
end
end
end Go.aK
namespace Go.Proofs.YtbodiiomcfgokaaGreat
open Go.Proofs.Tryz Go.aK Go.RowKit
theorem rh(f:Fl)(l:List af)(n:Nat)(OK:n<=1000000):ao prog 69 [.list 12 f (l.map af.pv),pI (n:Nat)] λp=>∃q:Bool,p=pB q/\(q=true->l.length<=n):=by
 refine ao.of (cB.c (ab.mk (λh=>⟨false,rfl,λh=>by cases h⟩) (λh=>?_)))
 have hn:l.length<=n:=by simpa using h
 refine ak.each (n:=l.length) (by omega) (λ_ _=>True) trivial (λk u next hk _ ar=>?_) (λu next _=>ab.f (by simp) ⟨true,rfl,λ_=>hn⟩)
 refine ab.t (by simpa using hk) ⟨by omega,_,aw hk,_,rfl,ab.mk (λ_=>⟨false,rfl,λh=>by cases h⟩) (λ_=>⟨by omega,_,aw hk,_,rfl,ab.mk (λ_=>⟨false,rfl,λh=>by cases h⟩) (λ_=>⟨by omega,_,aw hk,_,rfl,ab.mk (λ_=>⟨false,rfl,λh=>by cases h⟩) (λ_=>ar _ trivial)⟩)⟩)⟩
theorem lE(f:Fl)(l:List af)(n:Nat)(OK:n<=1000000):ao prog 16 [.list 12 f (l.map af.pv),pI (n:Nat)] λp=>∃q:Bool,p=pB q/\(q=true->l.length<=n):=by
 refine ao.of (cD.c ?_)
 exact(rh f l n OK).call λp ⟨q,e,h⟩=>⟨q,e,q,rfl,h⟩
open K6
theorem mF{ts:List cf}(h:ts.Pairwise λa b=>a.tags≠b.tags)(f:cf->Bool):cR (ts.filter f)=(cR ts).filter f:=by
 obtain⟨h1,h2⟩:=fQ h
 refine(CA (h.filter f) (h1.filter f) λy=>?_).symm
 rw[List.mem_filter,List.mem_filter,h2]
theorem zf{es:List af}{c:ae}(hk:c.kind=2)(ts:List cf):stepT es c ts=ts.filter λt=>(aN c t.binds es).isEmpty:=by
 unfold stepT
 rw[if_neg (by omega)]
 congr 1;funext t
 rw[iQ,if_neg (by omega),if_pos hk]
 cases(aN c t.binds es).isEmpty<;>rfl
theorem PI{es:List af}{c d:ae}(hk:c.kind=2)(hd:d.kind=3)(hc:d.conds=[c])(ts:List cf):stepT es d ts=ts.filter λt=> !(aN c t.binds es).isEmpty:=by
 unfold stepT
 rw[if_neg (by omega)]
 congr 1;funext t
 rw[iQ,if_neg (by omega),if_neg (by omega),hc]
 have hg:jQ es c t.binds=if(aN c t.binds es).isEmpty then[t.binds]else[]:=by rw[iQ,if_neg (by omega),if_pos hk]
 simp only[kD,List.flatMap_cons,List.flatMap_nil,List.append_nil]
 rw[hg]
 cases(aN c t.binds es).isEmpty<;>rfl
theorem Da{es:List af}(hu:xu es){p q:Prod}{c:ae}(hk:c.kind=2)(hq:q.conds=p.conds++[c]):eB es q=((cR (au es p.conds)).filter λt=>(aN c t.binds es).isEmpty).map λt=>⟨q.name,t.tags⟩:=by
 unfold eB
 rw[hq,cV,zf hk,mF (dv hu _)]
theorem Tj{es:List af}(hu:xu es){p q:Prod}{c d:ae}(hk:c.kind=2)(hd:d.kind=3)(hc:d.conds=[c])(hq:q.conds=p.conds++[d]):eB es q=((cR (au es p.conds)).filter λt=> !(aN c t.binds es).isEmpty).map λt=>⟨q.name,t.tags⟩:=by
 unfold eB
 rw[hq,cV,PI hk hd hc,mF (dv hu _)]
theorem DL{α:Type}(f:α->Bool):∀l:List α,l.length=(l.filter λx=> !f x).length+(l.filter f).length
 |[]=>rfl
 |x::l=>by
  have:=DL f l
  simp only[List.filter_cons]
  cases f x<;>simp<;>omega
theorem zb{T:Type}{ck:T->T->Int}(hc:oF ck){U:Type}{key:U->T}{l:List U}(h:ca ck key l){a b:U}(ha:a∈l)(hb:b∈l)(e:key a=key b):a=b:=by
 have h1:=(aM hc h (k:=key a) (x:=a)).2 ⟨ha,rfl⟩
 have h2:=(aM hc h (k:=key a) (x:=b)).2 ⟨hb,e.symm⟩
 rw[h1]at h2;exact Option.some.inj h2
theorem VN{es:List af}(hu:xu es){l:List ae}(f:cf->Bool):∀a∈(cR (au es l)).filter (λx=> !f x),∀b∈(cR (au es l)).filter f,a.tags≠b.tags:=by
 intro a ha b hb e
 obtain⟨h1,_⟩:=fQ (dv hu l)
 obtain⟨a1,a2⟩:=List.mem_filter.1 ha
 obtain⟨b1,b2⟩:=List.mem_filter.1 hb
 have:=zb dU h1 a1 b1 e
 subst this
 rw[b2]at a2;cases a2
theorem vz(f g:Fl)(l m:List Int)(hl:l.length<=1000000000):aZ 77 [.list 1 f (l.map gz),.list 1 g (m.map gz)] (l=m):=by
 refine ao.of (dK.c (ab.mk (λh=>aZ.no (i_ h)) (λh=>?_)))
 refine fE (l:=l) (m:=m) (n:=l.length) rfl (ix h) (by omega) (λk hk bW u next hy cm=>?_) (λu next e=>ab.f (by simp) (aZ.yes e))
 exact ab.t (by simpa using hk) ⟨by omega,_,aw hk,_,rfl,by omega,_,aw bW,_,rfl,ab.mk (λh=>aZ.no (cm λe=>by rw[e]at h;simp at h)) (λh=>hy (by simpa using h) _)⟩
set_option maxRecDepth 100000
section
variable {w:World}
theorem jq:prog.cellsOf 78=12:=by kernel_rfl
theorem ph(n:Nat)(cs:List Value)(h:Reads prog w n 78 cs):∃s:af,bF (gA w) s.pv cs/\True:=by
 obtain⟨m,rfl,hl,hf⟩:=h.struct underlying78
 rw[jq]at hl
 obtain⟨a,e0,_⟩:=kN _ _ (dR hf 0 0 jS rfl rfl rfl)
 obtain⟨b,e1,_⟩:=kN _ _ (dR hf 1 3 jS rfl rfl rfl)
 obtain⟨c,e2,_⟩:=kN _ _ (dR hf 2 6 jS rfl rfl rfl)
 obtain⟨i3,e3⟩:=(dR hf 3 9 lV rfl rfl rfl).pbool underlying4
 obtain⟨i4,e4⟩:=(dR hf 4 10 lV rfl rfl rfl).pbool underlying4
 obtain⟨i5,e5,_⟩:=(dR hf 5 11 sk rfl rfl rfl).CQ underlying3
 match cs,hl with
 |[x0,x1,x2,x3,x4,x5,x6,x7,x8,x9,Y_,x11],_=>exact⟨⟨a,b,c,_,_,_⟩,((((e0.append e1).append e2).append e3).append e4).append e5,trivial⟩
end
theorem bR.facts{n:Nat}{x:NC}{es:List af}{ps:List Prod}{w:Nat}{L:List aY}{μ:Mem}(h:Ow (bR n x es ps w::L) μ):((bK es ps:Nat):Int)<=x.M/\x.M<=1024/\ca aA aH es/\ca aI cM ps/\(∀q∈ps,l_ q)/\ps.length<=w:=by
 obtain⟨_,_,_,_,_,_,_,⟨hR,hs⟩,_⟩:=bR.open_ h
 exact⟨hs,hR.mb.2,hR.core.use.inv.ua,hR.si,hR.rE,hR.xt⟩
theorem iq{es:List af}(hn:xu es)(p:Prod):(eB es p).length=(au es p.conds).length:=by unfold eB;rw[List.length_map,gQ (dv hn _)]
theorem la{es:List af}(hn:xu es){p:Prod}(hp:l_ p):∀m∈eB es p,m.tags.length<=1000:=by
 intro m hm
 obtain⟨t,ht,rfl⟩:=List.mem_map.1 hm
 have ht:=((fQ (dv hn p.conds)).2 t).1 ht
 rw[<- gC]at ht
 obtain⟨q,hq,rfl⟩:=List.mem_map.1 ht
 have h1:=jC (es:=es) (l:=p.conds) (ts:=[ub]) (m:=0) (by simp[ub]) q hq
 obtain⟨_,_,_,g4,_⟩:=hp.facts
 have:=ch p.conds
 show q.tags.length<=1000
 omega
theorem vQ{α:Type}(f:α->Nat):∀{l:List α} {a:α},a∈l->f a<=(l.map f).sum
 |x::l,a,h=>by
  rw[List.map_cons,List.sum_cons]
  rcases List.mem_cons.1 h with rfl|h
  ·omega
  ·have:=vQ f h;omega
def ofM(es:List af)(ps:List Prod)(s:ByteArray):List Mt:=match aL aI cM s ps with
 |some q=>eB es q
 |none=>[]
@[reducible] def Mp(n:Nat)(s:ByteArray):PV:=.fn (.func 74) [] [.bn [pP n 0] 0,.bn [pS s] 0]
theorem Rg(n:Nat)(s:ByteArray):Pure prog 24 [pP n 0,pS s] (Mp n s):=ao.of (pw.c rfl)
@[reducible] def UF(f1 f2 f3:Fl)(T:Tree)(q:Prod):List PV:=[pS q.name,.list 7 f1 (q.conds.map ae.pv),.list 19 f2 (q.bp.map dh.pv),.list 1 f3 ((dE T.B q.conds).map λb=>[pP b 0])]
section
variable {n:Nat} {x:NC} {es:List af} {ps:List Prod} {w:Nat}
theorem Ml(hw:w<=1000)(s:ByteArray):Ag prog (Mp n s) ((ofM es ps s).map λm=>[.agg m.pv]) (bR n x es ps w):=by
 refine Ag.mk λfy ya yb J S μ hy hO df=>?_
 show aa _ _ [.fn fy ya yb,.bn [pP n 0] 0,.bn [pS s] 0] _ _
 obtain⟨T,ms,ids,tk,ct,fr,mn,⟨hR,dQ⟩,h1⟩:=bR.open_ hO
 have ow:ps.length<=1000:=Nat.le_trans hR.xt hw
 have shut:∀{u:Mem} {M:List aY},Ow (dc n x es ms ids T tk ct fr mn ps M) u->Ow (bR n x es ps w::M) u:=λh=>bR.shut hR dQ h
 refine ma.c ⟨λz u=>(z.2=true/\∃q b f1 f2 f3,aL aI cM s ps=some q/\z.1=some ⟨b,0,none⟩/\Ow (dc n x es ms ids T tk ct fr mn ps [Pt b 129 (UF f1 f2 f3 T q),J 0]) u)\/(z.2=false/\aL aI cM s ps=none/\Ow (dc n x es ms ids T tk ct fr mn ps [J 0]) u),?_,?_⟩
 ·refine⟨_,rfl,_,aE (an.qz (x:=x) (es:=es) (ms:=ms) (ids:=ids) h1 (by simp)) (by simp),_,rfl,?_,?_⟩
  ·refine RP.gO (Ow.at 2 rfl h1) hR.u (by rw[List.length_map];omega) s (λy u hy h3=>?_) (λu hy h3=>?_)
   ·rw[iL]at hy
    obtain⟨q,hq,rfl⟩:=Option.map_eq_some_iff.1 hy
    refine⟨_,_,_,_,_,_,_,_,rfl,λb4 xv=>?_⟩
    refine(h3.new _ _ xv).st 0 rfl (by simp) λu4 h4=>.inl ⟨rfl,q,b4,_,_,_,hq,rfl,Ow.ord [2,2,1,1,0,0] h4⟩
   ·rw[iL]at hy
    refine⟨_,_,_,_,_,_,_,_,rfl,λb4 xv=>?_⟩
    refine(h3.new _ _ xv).st 0 rfl (by simp) λu4 h4=>.inr ⟨rfl,Option.map_eq_none_iff.1 hy,Ow.ord [1,1,0,0,0] h4.drop⟩
  ·intro b4 xv
   have h2:=Ow.ord [1,1,1,1,0,0] (h1.new 129 [pS ⟨#[]⟩,.list 7 .nil [],.list 19 .nil [],.list 1 .nil []] xv)
   refine RP.gO (Ow.at 2 rfl h2) hR.u (by rw[List.length_map];omega) s (λy u hy h3=>?_) (λu hy h3=>?_)
   ·rw[iL]at hy
    obtain⟨q,hq,rfl⟩:=Option.map_eq_some_iff.1 hy
    refine⟨_,_,_,_,_,_,_,_,rfl,?_⟩
    refine h3.st 4 rfl (by simp) λu4 h4=>.inl ⟨rfl,q,b4,_,_,_,hq,rfl,Ow.ord [1,1,0,0,0,0] h4⟩
   ·rw[iL]at hy
    refine⟨_,_,_,_,_,_,_,_,rfl,?_⟩
    refine h3.st 4 rfl (by simp) λu4 h4=>.inr ⟨rfl,Option.map_eq_none_iff.1 hy,(Ow.ord [1,1,0,0,0,0] h4).tail λ_ h=>h.tail λ_ h=>h.tail λ_ h=>h.tail λ_ h=>h.drop⟩
 ·rintro⟨_,_⟩ u (⟨rfl,q,b,f1,f2,f3,hq,rfl,h2⟩|⟨rfl,cm,h2⟩)
  ·have e:ofM es ps s=eB es q:=by unfold ofM;rw[hq]
   obtain⟨Dv,Qz⟩:=(aM aP hR.si).1 hq
   have Qz:q.name=s:=Qz
   have aO:=hR.rE _ Dv
   have hD:=hR.pD _ Dv
   have zC:=hR.len hD
   refine ab.f rfl ⟨_,rfl,?_⟩
   dsimp only[nP,nn,aF]
   refine⟨_,_,_,_,_,_,_,h2.rd 4 rfl (by simp),?_⟩
   refine cOf s hR.tags aO hD (hR.core.dH.tok _ hD) zC _ _ _ (Ow.ord [1] h2) λf u3 h3=>⟨_,_,rfl,?_⟩
   have aT:=dv (kM hR.core.use.inv.ua) q.conds
   have TZ:((cR (au es q.conds)).map λt=>(⟨s,t.tags⟩:Mt))=ofM es ps s:=by rw[e,<- Qz];rfl
   rw[TZ]
   have ZC:(ofM es ps s).length<=1024:=by rw[e];unfold eB;rw[List.length_map,gQ aT];exact zC
   have h4:Ow (dc n x es ms ids T tk ct fr mn ps [J 0]) u3:=(Ow.ord [1,0,0,0,0,0] h3).tail λ_ h=>h.tail λ_ h=>h.tail λ_ h=>h.tail λ_ h=>h.drop
   refine ak.each (n:=(ofM es ps s).length) (by omega) (λk u=>Ow (dc n x es ms ids T tk ct fr mn ps [J k]) u) h4 ?_ ?_
   ·rintro k u4 next hk h4 ar
    refine ab.t (by simpa using hk) ⟨by omega,_,aw hk,_,_,_,rfl,?_⟩
    have gV:∀ν,J k ν->bY prog (.fn fy ya yb) [.agg (ofM es ps s)[k].pv] ν λv μ'=>(v=pB true/\Ow [J (k+1)] μ')\/(v=pB false/\Ow [S] μ'):=λν hν=>by
     have h:=df k (by rw[List.length_map];exact hk) ν hν
     rw[List.getElem_map]at h
     exact h
    refine Ow.va (Ow.ord [4] h4) gV λv u5 h5=>?_
    rcases h5.qB with⟨rfl,h6⟩|⟨rfl,h6⟩
    ·exact⟨_,rfl,ab.f rfl (ar _ (Ow.ord [1,1,1,1,0] h6))⟩
    ·exact⟨_,rfl,ab.t rfl (.inr (shut (Ow.ord [1,1,1,1,0] h6)))⟩
   ·rintro u4 next h4
    refine ab.f (by simp) (.inl ?_)
    rw[List.length_map]
    exact shut h4
  ·have e:ofM es ps s=[]:=by unfold ofM;rw[cm]
   rw[e]
   exact ab.t rfl (.inl (shut h2))
theorem Rh(hw:w<=1000)(s:ByteArray){L:List aY}{μ:Mem}(hO:Ow (bR n x es ps w::L) μ){F:Kq}(hk:∀f μ',Ow (bR n x es ps w::L) μ'->F (.list 2 f ((ofM es ps s).map Mt.pv)) μ'):aa prog 23 [Mp n s] μ F:=by
 obtain⟨h1,h2,h3,h4,_⟩:=bR.facts hO
 refine zW (l:=ofM es ps s) (Ml hw s) ?_ hO hk
 unfold ofM
 cases hq:aL aI cM s ps with
 |none=>simp
 |some q=>
  show(eB es q).length<=_
  rw[iq (kM h3)]
  have hm:=((aM aP h4).1 hq).1
  have:(au es q.conds).length<=bK es ps:=by
   unfold bK
   exact vQ (λq:Prod=>(au es q.conds).length) hm
  omega
end
theorem pO{ps:List Prod}(h:ca aI cM ps):ps.Nodup:=by
 refine h.imp λ{a b} uk e=>?_
 rw[e]at uk
 rw[aP.self]at uk;omega
def dk(c:ae):ae:=.mk 2 c.goal c.id c.attr c.value c.acc c.conds
theorem vI{c:ae}(h:cr c):cr (dk c):=(bu _).2 ((bu c).1 h)
def ou(s:ByteArray)(l:List ae)(p:Prod):Prod:=⟨s,l,p.bp⟩
theorem tR(c:ae):[[pI c.kind,pB c.goal,pS c.id,.list 6 .sh (c.attr.map Test.pv),.list 6 .sh (c.value.map Test.pv),pB c.acc,.list 7 .sh (c.conds.map ae.pv)]]=[c].map ae.pv:=by rw[List.map_singleton,ae.cP]
theorem B_(l:List ae)(c:ae):l.map ae.pv++[[pI c.kind,pB c.goal,pS c.id,.list 6 .sh (c.attr.map Test.pv),.list 6 .sh (c.value.map Test.pv),pB c.acc,.list 7 .sh (c.conds.map ae.pv)]]=(l++[c]).map ae.pv:=by rw[tR,List.map_append]
theorem qE(l:List ae)(c:ae):aj (l++[c])=aj l+aR c:=by
 have h:=jE (l:=l++[c]) (i:=l.length) (by simp)
 have e1:(l++[c]).take (l.length+1)=l++[c]:=List.take_of_length_le (by simp)
 have e2:(l++[c]).take l.length=l:=List.take_left' rfl
 rw[e1,e2]at h
 simpa using h
theorem oS{l:List ae}{c:ae}(h:bD l)(hc:cr c):bD (l++[c]):=bH.2 λd hd=>by
 rcases List.mem_append.1 hd with hd|hd
 ·exact bH.1 h d hd
 ·simp only[List.mem_singleton]at hd;subst hd;exact hc
theorem Nu(p:Prod)(c:ae)(es:List af){μ:Mem}{J:Bool->Mem->Prop}(hJ:∀b,(b=false->lb p/\es.length<=30/\cr c/\aR c=1)->J b μ):
  aa prog 15 [.agg [pS p.name,.list 7 .sh (p.conds.map ae.pv),.list 19 .sh (p.bp.map dh.pv)]] μ λv tE=>∃x24,v=(pB x24)/\ab x24 (J true tE)
   (aa prog 16 [.list 12 .sh (es.map af.pv),pI (30)] tE λJe tD=>∃YZ,Je=(pB YZ)/\ab (!YZ) (J true tD)
    (aa prog 17 [.list 7 .nr [[pI c.kind,pB c.goal,pS c.id,.list 6 .sh (c.attr.map Test.pv),.list 6 .sh (c.value.map Test.pv),pB c.acc,.list 7 .sh (c.conds.map ae.pv)]],pI (3),pI (0)] tD λSc IQ=>∃x33,Sc=(pI x33)/\ab (decide ((x33:Int)>(1))) (J true IQ)
     (aa prog 18 [.list 7 .nr [[pI c.kind,pB c.goal,pS c.id,.list 6 .sh (c.attr.map Test.pv),.list 6 .sh (c.value.map Test.pv),pB c.acc,.list 7 .sh (c.conds.map ae.pv)]]] IQ λv_3 EB=>∃YY,v_3=(pB YY)/\J YY EB))):=by
 have bad:J true μ:=hJ true λh=>by cases h
 refine(wy .sh .sh p).call ?_
 rintro _ ⟨q,rfl,hq⟩
 refine⟨_,rfl,ab.mk (λ_=>bad) (λh1=>?_)⟩
 refine(lE .sh es 30 (by omega)).call ?_
 rintro _ ⟨q2,rfl,Gr⟩
 refine⟨_,rfl,ab.mk (λ_=>bad) (λh2=>?_)⟩
 rw[tR]
 refine(No _ .nr [c] 3 0 (Nat.le_refl _) (by omega) (by omega)).call ?_
 rintro _ ⟨r,rfl,OH,BV⟩
 refine⟨_,rfl,ab.mk (λ_=>bad) (λh3=>?_)⟩
 have h3:¬((r:Nat):Int)>1:=by simpa using h3
 have hs:=BV (by omega)
 have Ke:aj [c]=aR c:=by simp[aj]
 have TK:=bM c
 refine(te _ .nr [c] (Nat.le_refl _) (by omega)).call ?_
 rintro _ ⟨q3,rfl,Dw⟩
 exact⟨_,rfl,hJ q3 λh4=>⟨hq h1,Gr (nt h2),bH.1 (Dw h4) c (by simp),by omega⟩⟩
theorem th(f:Fl)(l:List ae)(hs:aj l<=100000)(hl:bD l){L:List aY}{μ:Mem}(hO:Ow L μ){K:Kq}(hk:∀g μ',Ow (eH g l.length 7::L) μ'->K (.list 7 g (l.map ae.pv)) μ'):aa prog 71 [.list 7 f (l.map ae.pv)] μ K:=by
 have sM:=ch l
 refine fj.c ?_
 refine ak.dm (n:=l.length) (by omega) (λi x u=>x.2=(l.take i).map ae.pv/\Ow (eH x.1 i 7::L) u) ⟨rfl,hO.nil (.inl rfl)⟩ ?_ ?_
 ·rintro i ⟨g,_⟩ u next hi ⟨rfl,h1⟩ ar
  have hm:=eM (List.getElem_mem hi)
  obtain⟨_,ha,hv,IX,MM,mR⟩:=(bu _).1 (bH.1 hl _ (List.getElem_mem hi))
  refine ab.t (by simpa using hi) ⟨by omega,_,aw hi,_,_,_,_,_,_,_,_,_,_,iI _,?_⟩
  refine Pure.call (r:=.agg l[i].pv) (ao.of (gY.c ?_)) ?_
  ·refine(lu .sh _ (by omega) (cI IX)).call ⟨_,_,rfl,(lu .sh _ (by omega) (cI MM)).call ⟨_,_,rfl,(wA _ .sh _ (Nat.le_refl _) (by omega) mR).call ⟨_,_,rfl,?_⟩⟩⟩
   rw[ae.cP];rfl
  ·rw[ae.cP]
   refine⟨_,_,_,_,_,_,_,_,_,_,rfl,?_⟩
   have hlen:((l.take i).map ae.pv).length=i:=by rw[List.length_map,List.length_take];omega
   refine h1.app hlen (by simp;omega) (by simp;omega) λf1 μ1 h2=>ar _ _ ⟨?_,h2⟩
   rw[dT hi,ae.cP l[i]]
 ·rintro⟨g,_⟩ u next ⟨rfl,h1⟩
  refine ab.f (by simp) ?_
  rw[List.take_length]
  exact hk g u h1
theorem ri(f1 f2:Fl)(p:Prod)(h:kO p){L:List aY}{μ:Mem}(hO:Ow L μ){K:Kq}(hk:∀g μ',Ow (eH g p.conds.length 7::L) μ'->K (.agg [pS p.name,.list 7 g (p.conds.map ae.pv),.list 19 .sh (p.bp.map dh.pv)]) μ'):aa prog 20 [.agg [pS p.name,.list 7 f1 (p.conds.map ae.pv),.list 19 f2 (p.bp.map dh.pv)]] μ K:=by
 obtain⟨q1,q2,q3⟩:=h
 refine gX.c ?_
 refine aa.q (K:=λv μ'=>∃g,v=.list 7 g (p.conds.map ae.pv)/\Ow [eH g p.conds.length 7] μ') (th f1 p.conds (by omega) q1 (L:=[]) trivial λg μ' hg=>⟨g,rfl,hg⟩) ?_
 rintro _ ν hs ⟨g,rfl,hg⟩
 refine⟨_,_,rfl,(wB f2 p.bp (by omega)).q ⟨_,_,rfl,?_⟩⟩
 rw[Mem.oM]
 exact hk g _ (Ow.side hO hs hg)
theorem LU{l m:List Prod}(hn:l.Nodup)(hm:m.length<=l.length)(hs:∀x∈l,x∈m):∀x∈m,x∈l:=by
 classical
 intro x hx
 refine Classical.byContradiction λhc=>?_
 have h1:l.length<=(m.erase x).length:=sE hn λy hy=>(List.mem_erase_of_ne (λe:y=x=>hc (e▸hy))).2 (hs y hy)
 rw[List.length_erase_of_mem hx]at h1
 have:=List.length_pos_of_mem hx
 omega
section
variable {n:Nat} {x:NC} {es:List af} {ps:List Prod} {w:Nat}
theorem zu{s:ByteArray}{q:Prod}(h:aL aI cM s ps=some q):ofM es ps s=eB es q:=by unfold ofM;rw[h]
end
def rk(c:ae):ae:=.mk 3 false ⟨#[]⟩ [] [] false [c]
theorem Nr(p:Prod)(h:kO p){L:List aY}{μ:Mem}(hO:Ow L μ){K:Kq}(hk:∀g ν,Ow (eH g p.conds.length 7::L) (μ.or ν)->K (.agg [pS p.name,.list 7 g (p.conds.map ae.pv),.list 19 .sh (p.bp.map dh.pv)]) ν):dz prog 20 [.agg [pS p.name,.list 7 .sh (p.conds.map ae.pv),.list 19 .sh (p.bp.map dh.pv)]] μ K:=by
 refine aa.q (K:=λv μ'=>∃g,v=.agg [pS p.name,.list 7 g (p.conds.map ae.pv),.list 19 .sh (p.bp.map dh.pv)]/\Ow [eH g p.conds.length 7] μ') (ri .sh .sh p h (L:=[]) trivial λg μ' hg=>⟨g,rfl,hg⟩) ?_
 rintro _ ν hs ⟨g,rfl,hg⟩
 exact hk g ν (Ow.side hO hs hg)
theorem acx(f1 f2:Fl)(a b:List Mt)(ha:a.length<=1000000)(hb:b.length<=1000000)(ht:∀m∈a,m.tags.length<=1000000)(hd:∀m∈a,∀k∈b,m.tags≠k.tags):Pure prog 25 [.list 2 f1 (a.map Mt.pv),.list 2 f2 (b.map Mt.pv)] (pB true):=by
 refine ao.of (uK.c ?_)
 refine ak.each (n:=a.length) (by omega) (λ_ _=>True) trivial (λi u next hi _ ar=>ab.t (by simpa using hi) ?_) (λu next _=>ab.f (by simp) rfl)
 refine ak.each (n:=b.length) (by omega) (λ_ _=>True) trivial (λk u qc hk _ gq=>ab.t (by simpa using hk) ?_) (λu qc _=>ab.f (by simp) (ar _ trivial))
 refine⟨by omega,_,aw hi,_,_,rfl,by omega,_,aw hk,_,_,rfl,?_⟩
 exact(vz .sh .sh _ _ (by have:=ht _ (List.getElem_mem hi);omega)).call (λe=>absurd e (hd _ (List.getElem_mem hi) _ (List.getElem_mem hk))) (λ_=>⟨_,rfl,ab.f rfl (gq _ trivial)⟩)
theorem KU(p:Prod)(c:ae)(es:List af)(_:(∀s∈es,True)/\es.length<=maxLen):Pure prog 3 [.agg p.pv,.agg c.pv,.list 12 .sh (es.map af.pv)] (pB true):=by
 rw[ae.cP]
 refine ao.of (pG.c ?_)
 refine⟨λs u=>s=false->lb p/\es.length<=30/\cr c/\aR c=1,Nu p c es (J:=λs _=>s=false->lb p/\es.length<=30/\cr c/\aR c=1) λb h=>h,?_⟩
 rintro b u hs
 refine ab.mk (λ_=>dS u) (λhf=>?_)
 obtain⟨RQ,he,ZH,Ke⟩:=hs hf
 obtain⟨q1,q2,q3,_⟩:=RQ
 have rS:=vI ZH
 have Du:aR (dk c)=1:=by rw[bM]at Ke |-;exact Ke
 have hl3:cr (rk (dk c)):=(bu _).2 ⟨by show(⟨#[]⟩:ByteArray).size<=100;decide,by show 0<=40;omega,by show 0<=40;omega,by simp[rk,ae.attr],by simp[rk,ae.value],bH.2 (by simpa[rk,ae.conds]using rS)⟩
 have hs3:aR (rk (dk c))=2:=by
  rw[bM]
  show 1+aj [dk c]=2
  simp[aj,Du]
 have Ua:bD (p.conds++[rk (dk c)]):=oS q1 hl3
 have hsq:aj (p.conds++[rk (dk c)])<=42:=by rw[qE];omega
 have cz:bD (p.conds++[dk c]):=oS q1 rS
 have gV:aj (p.conds++[dk c])<=41:=by rw[qE];omega
 have pvt:p.conds.map ae.pv++[[pI 2,pB c.goal,pS c.id,.list 6 .sh (c.attr.map Test.pv),.list 6 .sh (c.value.map Test.pv),pB c.acc,.list 7 .sh (c.conds.map ae.pv)]]=(p.conds++[dk c]).map ae.pv:=B_ p.conds (dk c)
 have pvq:p.conds.map ae.pv++[[pI 3,pB false,pS ⟨#[]⟩,.list 6 .sh [],.list 6 .sh [],pB false,.list 7 .sh [[pI 2,pB c.goal,pS c.id,.list 6 .sh (c.attr.map Test.pv),.list 6 .sh (c.value.map Test.pv),pB c.acc,.list 7 .sh (c.conds.map ae.pv)]]]]=(p.conds++[rk (dk c)]).map ae.pv:=by
  have h1:[[pI 2,pB c.goal,pS c.id,.list 6 .sh (c.attr.map Test.pv),.list 6 .sh (c.value.map Test.pv),pB c.acc,.list 7 .sh (c.conds.map ae.pv)]]=[dk c].map ae.pv:=tR (dk c)
  rw[h1]
  exact B_ p.conds (rk (dk c))
 have sM:=ch p.conds
 have hP:kO (ou ⟨#[97]⟩ p.conds p):=⟨q1,by show aj p.conds<=50;omega,by show p.bp.length<=50;omega⟩
 refine(wz .sh .sh p ⟨q1,by omega,by omega⟩).call ⟨_,_,_,_,_,rfl,?_⟩
 have mk:∀g:Fl,[pS ⟨#[97]⟩,.list 7 g (p.conds.map ae.pv),.list 19 .sh (p.bp.map dh.pv)]=[pS ⟨#[97]⟩,.list 7 g ((ou ⟨#[97]⟩ p.conds p).conds.map ae.pv),.list 19 .sh ((ou ⟨#[97]⟩ p.conds p).bp.map dh.pv)]:=λ_=>rfl
 refine⟨λs u=>∃b7 b8 g1 g2,s=(some ⟨b7,0,none⟩,some ⟨b8,0,none⟩)/\Ow [Pt b7 25 [pS ⟨#[97]⟩,.list 7 g1 (p.conds.map ae.pv),.list 19 .sh (p.bp.map dh.pv)],Pt b8 25 [pS ⟨#[97]⟩,.list 7 g2 (p.conds.map ae.pv),.list 19 .sh (p.bp.map dh.pv)],eH g1 p.conds.length 7,eH g2 p.conds.length 7] u,?_,?_⟩
 ·have fin:∀{b7 b8:Nat} {g1 g2:Fl} {u:Mem},Ow [Pt b7 25 [pS ⟨#[]⟩,.list 7 .nil [],.list 19 .nil []],Pt b8 25 [pS ⟨#[]⟩,.list 7 .nil [],.list 19 .nil []],eH g1 p.conds.length 7,eH g2 p.conds.length 7] u->stM b7 0 [pS ⟨#[97]⟩,.list 7 g1 (p.conds.map ae.pv),.list 19 .sh (p.bp.map dh.pv)] u λu1=>stM b8 0 [pS ⟨#[97]⟩,.list 7 g2 (p.conds.map ae.pv),.list 19 .sh (p.bp.map dh.pv)] u1 λu2=>∃b7' b8' g1 g2,((some ⟨b7,0,none⟩,some ⟨b8,0,none⟩):Option Addr×Option Addr)=(some ⟨b7',0,none⟩,some ⟨b8',0,none⟩)/\Ow [Pt b7' 25 [pS ⟨#[97]⟩,.list 7 g1 (p.conds.map ae.pv),.list 19 .sh (p.bp.map dh.pv)],Pt b8' 25 [pS ⟨#[97]⟩,.list 7 g2 (p.conds.map ae.pv),.list 19 .sh (p.bp.map dh.pv)],eH g1 p.conds.length 7,eH g2 p.conds.length 7] u2:=λ{b7 b8 g1 g2 u} h=>
   h.st 0 rfl (by simp) λu1 h1=>h1.st 1 rfl (by simp) λu2 h2=>⟨b7,b8,g1,g2,rfl,h2⟩
  have cq:∀{L:List aY} {μ:Mem} (hO:Ow L μ) {K:Kq} (hk:∀g ν,Ow (eH g p.conds.length 7::L) (μ.or ν)->K (.agg [pS ⟨#[97]⟩,.list 7 g (p.conds.map ae.pv),.list 19 .sh (p.bp.map dh.pv)]) ν),dz prog 20 [.agg [pS ⟨#[97]⟩,.list 7 .sh (p.conds.map ae.pv),.list 19 .sh (p.bp.map dh.pv)]] μ K:=λ{L μ} hO {K} hk=>Nr (ou ⟨#[97]⟩ p.conds p) hP hO hk
  have cp:∀{L:List aY} {μ:Mem} (hO:Ow L μ) {K:Kq} (hk:∀g μ',Ow (eH g p.conds.length 7::L) μ'->K (.agg [pS ⟨#[97]⟩,.list 7 g (p.conds.map ae.pv),.list 19 .sh (p.bp.map dh.pv)]) μ'),aa prog 20 [.agg [pS ⟨#[97]⟩,.list 7 .sh (p.conds.map ae.pv),.list 19 .sh (p.bp.map dh.pv)]] μ K:=λ{L μ} hO {K} hk=>ri .sh .sh (ou ⟨#[97]⟩ p.conds p) hP hO hk
  have h0:Ow [] u:=trivial
  refine⟨cq h0 λg1 ν h1=>⟨_,_,_,_,_,rfl,⟨cp h1 λg2 u2 h2=>⟨_,_,_,_,_,rfl,λb7 rT b8 uj=>fin (Ow.ord [1,0,1,0] ((h2.new _ _ rT).new _ _ uj)),λb8 uj b7 rT=>fin (Ow.ord [0,0,1,0] ((h2.new _ _ uj).new _ _ rT))⟩,
   λb7 rT=>⟨cp (h1.new _ _ rT) λg2 u2 h2=>⟨_,_,_,_,_,rfl,λb8 uj=>fin (Ow.ord [2,0,1,0] (h2.new _ _ uj))⟩,λb8 uj=>cp ((h1.new _ _ rT).new _ _ uj) λg2 u2 h2=>⟨_,_,_,_,_,rfl,fin (Ow.ord [2,1,1,0] h2)⟩⟩,
   λb8 uj=>⟨cp (h1.new _ _ uj) λg2 u2 h2=>⟨_,_,_,_,_,rfl,λb7 rT=>fin (Ow.ord [0,1,1,0] (h2.new _ _ rT))⟩,λb7 rT=>cp ((h1.new _ _ uj).new _ _ rT) λg2 u2 h2=>⟨_,_,_,_,_,rfl,fin (Ow.ord [1,1,1,0] h2)⟩⟩⟩⟩,?_,?_⟩
  ·exact λb7 rT=>⟨cq (h0.new _ _ rT) λg1 ν h1=>⟨_,_,_,_,_,rfl,cp h1 λg2 u2 h2=>⟨_,_,_,_,_,rfl,λb8 uj=>fin (Ow.ord [3,0,1,0] (h2.new _ _ uj))⟩,λb8 uj=>cp (h1.new _ _ uj) λg2 u2 h2=>⟨_,_,_,_,_,rfl,fin (Ow.ord [3,1,1,0] h2)⟩⟩,λb8 uj=>cq ((h0.new _ _ rT).new _ _ uj) λg1 ν h1=>⟨_,_,_,_,_,rfl,cp h1 λg2 u2 h2=>⟨_,_,_,_,_,rfl,fin (Ow.ord [3,2,1,0] h2)⟩⟩⟩
  ·exact λb8 uj=>⟨cq (h0.new _ _ uj) λg1 ν h1=>⟨_,_,_,_,_,rfl,cp h1 λg2 u2 h2=>⟨_,_,_,_,_,rfl,λb7 rT=>fin (Ow.ord [0,2,1,0] (h2.new _ _ rT))⟩,λb7 rT=>cp (h1.new _ _ rT) λg2 u2 h2=>⟨_,_,_,_,_,rfl,fin (Ow.ord [1,2,1,0] h2)⟩⟩,λb7 rT=>cq ((h0.new _ _ uj).new _ _ rT) λg1 ν h1=>⟨_,_,_,_,_,rfl,cp h1 λg2 u2 h2=>⟨_,_,_,_,_,rfl,fin (Ow.ord [2,2,1,0] h2)⟩⟩⟩
 rintro _ u0 ⟨b7,b8,g1,g2,rfl,h0⟩
 dsimp only[nP,nn,aF]
 refine h0.st 0 rfl (by simp) λu1 h1=>h1.st 1 rfl (by simp) λu2 h2=>⟨_,_,h2.rd 0 rfl (by simp[dN]),?_⟩
 refine(Ow.ord [2] h2).app (by rw[List.length_map]) (by show(p.conds.length+1)*112<=_;omega) (by show p.conds.length+1<_;omega) λf1 u3 h3=>?_
 rw[pvq]
 refine h3.st 1 rfl (by simp[dN]) λu4 h4=>⟨_,_,h4.rd 2 rfl (by simp[dN]),?_⟩
 refine(Ow.ord [3] h4).app (by rw[List.length_map]) (by show(p.conds.length+1)*112<=_;omega) (by show p.conds.length+1<_;omega) λf2 u5 h5=>?_
 rw[pvt]
 refine h5.st 3 rfl (by simp[dN]) λu6 h6=>⟨_,_,_,_,_,h6.rd 2 rfl (by simp[dN]),?_⟩
 refine(Ir .sh .sh (ou ⟨#[98]⟩ (p.conds++[rk (dk c)]) p) Ua (by show aj (p.conds++[rk (dk c)])<=_;omega) (by show p.bp.length<=_;omega)).call ⟨_,_,rfl,ab.mk (λ_=>dS _) (λhc1=>?_)⟩
 refine⟨_,_,_,_,_,h6.rd 2 rfl (by simp[dN]),_,_,_,_,_,h6.rd 3 rfl (by simp[dN]),?_⟩
 have uh:oR [ou ⟨#[97]⟩ p.conds p,ou ⟨#[98]⟩ (p.conds++[rk (dk c)]) p,ou ⟨#[99]⟩ (p.conds++[dk c]) p] 3:=⟨by simp,λq hq=>by
  simp only[List.mem_cons,List.not_mem_nil,or_false]at hq
  rcases hq with rfl|rfl|rfl
  ·exact hP
  ·exact⟨Ua,by show aj (p.conds++[rk (dk c)])<=50;omega,by show p.bp.length<=50;omega⟩
  ·exact⟨cz,by show aj (p.conds++[dk c])<=50;omega,by show p.bp.length<=50;omega⟩⟩
 refine tU (ps:=[ou ⟨#[97]⟩ p.conds p,ou ⟨#[98]⟩ (p.conds++[rk (dk c)]) p,ou ⟨#[99]⟩ (p.conds++[dk c]) p]) .nr .sh (by omega) uh es (by omega) (L:=[]) trivial λn r x fw fW y u7 hT hM ht IY eZ hb h7=>⟨_,_,rfl,ab.f rfl ?_⟩
 obtain⟨f,h8⟩:=aW.open_ (Ow.swap h7)
 refine⟨_,_,h8.rd 0 rfl (by simp),ab.mk (λ_=>dS _) (λh2=>?_)⟩
 have h2:fW.length=3:=by simp only[List.length_map,hb.ps,bne_eq_false_iff_eq]at h2;omega
 obtain⟨dQ,hM1,hu,IV,TN,_⟩:=bR.facts h7
 have aT:=kM hu
 have gG:=LU (pO IV) (by simp;omega) eZ
 have hp1:=gG (ou ⟨#[97]⟩ p.conds p) (by simp)
 have hp2:=gG (ou ⟨#[98]⟩ (p.conds++[rk (dk c)]) p) (by simp)
 have hp3:=gG (ou ⟨#[99]⟩ (p.conds++[dk c]) p) (by simp)
 have HN:aL aI cM ⟨#[97]⟩ fW=some (ou ⟨#[97]⟩ p.conds p):=(aM aP IV).2 ⟨hp1,rfl⟩
 have ZK:aL aI cM ⟨#[98]⟩ fW=some (ou ⟨#[98]⟩ (p.conds++[rk (dk c)]) p):=(aM aP IV).2 ⟨hp2,rfl⟩
 have hg3:aL aI cM ⟨#[99]⟩ fW=some (ou ⟨#[99]⟩ (p.conds++[dk c]) p):=(aM aP IV).2 ⟨hp3,rfl⟩
 have iP:=Tj (es:=fw) aT (p:=ou ⟨#[97]⟩ p.conds p) (q:=ou ⟨#[98]⟩ (p.conds++[rk (dk c)]) p) (c:=dk c) (d:=rk (dk c)) rfl rfl rfl rfl
 have XN:=Da (es:=fw) aT (p:=ou ⟨#[97]⟩ p.conds p) (q:=ou ⟨#[99]⟩ (p.conds++[dk c]) p) (c:=dk c) rfl rfl
 have zE:∀q∈fW,(eB fw q).length<=1024:=λq hq=>by
  have h:=vQ (λq:Prod=>(au fw q.conds).length) hq
  rw[iq aT]
  have hs:bK fw fW=(fW.map λq=>(au fw q.conds).length).sum:=rfl
  omega
 refine(Rg n _).call ⟨_,_,_,rfl,Rh (by omega) _ h7 λfa u8 h9=>⟨_,_,rfl,?_⟩⟩
 refine(Rg n _).call ⟨_,_,_,rfl,Rh (by omega) _ h9 λfb u9 qk=>⟨_,_,rfl,?_⟩⟩
 refine(Rg n _).call ⟨_,_,_,rfl,Rh (by omega) _ qk λfc u10 A_=>⟨_,_,rfl,?_⟩⟩
 rw[zu HN,zu ZK,zu hg3]
 have k2:=zE _ hp2
 have k3:=zE _ hp3
 have hlen:(eB fw (ou ⟨#[97]⟩ p.conds p)).length=(eB fw (ou ⟨#[98]⟩ (p.conds++[rk (dk c)]) p)).length+(eB fw (ou ⟨#[99]⟩ (p.conds++[dk c]) p)).length:=by
  rw[iP,XN,List.length_map,List.length_map]
  unfold eB
  rw[List.length_map]
  exact DL (λt:cf=>(aN (dk c) t.binds fw).isEmpty) _
 refine ab.t ?_ ?_
 ·rw[List.length_map,List.length_map,List.length_map,hlen,az (by omega) (by omega)];simp
 ·refine(acx _ _ _ _ (by omega) (by omega) (λm hm=>by have:=la aT (TN _ hp2) m hm;omega) λm hm k hk=>?_).call ⟨_,rfl,ab.t rfl (dS _)⟩
  rw[iP]at hm
  rw[XN]at hk
  obtain⟨t1,ht1,rfl⟩:=List.mem_map.1 hm
  obtain⟨t2,XG,rfl⟩:=List.mem_map.1 hk
  exact VN aT (l:=p.conds) (λt:cf=>(aN (dk c) t.binds fw).isEmpty) t1 ht1 t2 XG
open Go.ChangeShapes Go.WideShapes Go.ChangeAt
set_option maxRecDepth 100000 in
theorem ReteDouble.lifted(os:Os)(started:os.Started)(H:Type)(enc:TypeId×Value->H):
  ReturnsInHanded {} Tryz.checked os 3 .any (Rows.reteDoubleSpec.pre6 enc prog f3 Rows.reteDoubleRow.domain false) (Rows.reteDoubleSpec.post enc prog f3 false true false false):=by
 refine returnsInHanded_of_change (C:=Tryz.checked) qK started (by kernel_rfl) func3
  (ChangeSpec.witness6 (enc:=enc) (C:=Tryz.checked) false ⟨#[],#[.agg #[.string ByteArray.empty,.slice none 0 0,.slice none 0 0],.agg #[.int .i64 0,.bool false,.string ByteArray.empty,.slice none 0 0,.slice none 0 0,.bool false,.slice none 0 0],.slice none 0 0],[]⟩ 12 (by kernel_rfl) (by kernel_rfl) (by kernel_rfl) (by kernel_rfl)) ?_
 intro W base args ds gs before jH hW QG _
 have gU:∀(j:Nat) t v,f3.params[j]?=some t->args[j]?=some v->Value.okWide prog W .any base t v:=jH
 have QI:=hW
 obtain⟨p,q,Gv,hV,rfl,ZM,Bv⟩:=hW
 have hA:DataW.TrodAll enc prog W 0 (λ_=>true) true f3.params.toList args.toList ds p:=Gv
 rw[params3]at hA gU
 obtain⟨v0,vs0,d0,ds0,p0,q0,AW,rfl,rfl,h0,r0⟩:=trodAll_cons hA
 obtain⟨v1,WA,d1,ds1,p1,q1,rfl,rfl,rfl,h1,r1⟩:=trodAll_cons r0
 obtain⟨v2,vs2,d2,ds2,p2,q2,rfl,rfl,rfl,h2,r2⟩:=trodAll_cons r1
 obtain⟨rfl,rfl,rfl⟩:=trodAll_nil r2
 obtain rfl:args= #[v0,v1,v2]:=by cases args;simp_all
 obtain⟨rfl,rfl⟩:=trodVars_none hV
 have Qq:∀x∈p0,x.block<W.heap.size:=by obtain⟨m,hm⟩:=h0;exact DataW.trod_lt m _ _ _ hm
 obtain⟨a0,e0,w0⟩:=qL underlying25 vv (gU 0 25 v0 rfl rfl) h0
 have Qp:∀x∈p1,x.block<W.heap.size:=by obtain⟨m,hm⟩:=h1;exact DataW.trod_lt m _ _ _ hm
 obtain⟨a1,e1,w1⟩:=qL underlying28 Mo (gU 1 28 v1 rfl rfl) h1
 have Tm:∀x∈p2,x.block<W.heap.size:=by obtain⟨m,hm⟩:=h2;exact DataW.trod_lt m _ _ _ hm
 obtain⟨a2,e2,w2⟩:=iY underlying29 jq (by omega) ph (gU 2 29 v2 rfl rfl) h2
 clear Gv jH
 refine(ao.calls (vs:=[v0,v1,v2]) (KU a0 a1 a2 w2) (bf.cons rfl e0 (bf.cons rfl e1 (bf.cons rfl e2 (bf.nil _))))).mono λe W' ⟨⟨v,x,Z,he,hr,hx⟩,tj⟩=>?_
 subst hx;subst he;rw[hr.ofRaw.1]
 exact⟨_,rfl,_,_,_,[],_,[],QI,trodAll_mk1 (shut_bool underlying4 _),(trodAll_cons_mk (Below.trod dj (by kernel_rfl) (of_decide_eq_true (by kernel_rfl)) h0 tj Qq) (trodAll_cons_mk (Below.trod dj (by kernel_rfl) (of_decide_eq_true (by kernel_rfl)) h1 tj Qp) (trodAll_cons_mk (Below.trod dj (by kernel_rfl) (of_decide_eq_true (by kernel_rfl)) h2 tj Tm) trodAll_mk0))),rfl,tj.frame _,λh=>by cases h⟩
theorem and2{a b:Bool}(h:a=true)(k:b=true):(a&&b)=true:=by rw[h,k];rfl
set_option maxHeartbeats 0 in
theorem ReteDouble.closed:joinedFacts Tryz.checked.prog 3 f3 Rows.reteDoubleSpec Rows.reteDoubleRow=true:=by
 unfold joinedFacts
 repeat' with_reducible apply and2
 all_goals (as_aux_lemma=>kernel_rfl)
theorem ReteDouble.proved:Rows.ReteDoubleSaid:=
 OpenClaim.holds_of_wide 3 f3 rfl rfl rfl rfl rfl rfl rfl ⟨rfl,rfl,rfl,rfl,rfl⟩ rfl rfl rfl rfl rfl (by kernel_rfl) func3 ReteDouble.closed
  (of_decide_eq_true (by kernel_rfl)) (by unfold Func.isWrapper;first|(rw[if_pos (by decide +kernel)];kernel_rfl)|(rw[if_neg (by decide +kernel)];exact⟨rfl,rfl⟩))
  (λos started H enc _=>ReteDouble.lifted os started H enc)
end Go.Proofs.YtbodiiomcfgokaaGreat
