import Derived.Test.YtbodiiomcfgokaaGreatB05
import Derived.Test.YtbodiiomcfgokaaGreatChecked
import Derived.KernelRfl
set_option linter.all false
namespace Go.Proofs.YtbodiiomcfgokaaGreat
open Go.Proofs.Tryz Go.aK
variable {u0:Mem} {K:Kq}
set_option maxRecDepth 100000
theorem wY.c{e:ByteArray}{d j:Fl}{b f:Lq}(h:
aa prog 17 [.list 7 d b,pI 40,pI 0] u0 λl a=>
∃i,l=(pI i)/\
ab (decide (i>40))
(K (pB true) a)
(ab (decide (((List.length f:Nat):Int)>40))
(K (pB true) a)
(ab (decide ((((ByteArray.size e:Nat):Int):Int)>100))
(K (pB true) a)
(aa prog 18 [.list 7 d b] a λm k=>
∃g,m=(pB g)/\
K (pB g) k)))):aa prog 15 [.agg [pS e,.list 7 d b,.list 19 j f]] u0 K:=
VC [1] [] [] [] [] [] [] func15 h
theorem pe.c{n:Fl}{d:Lq}{b e:Int}(h:
ab (decide (e>20))
(K (pI (IntKind.wrap .i64 (b+1))) u0)
(bZ (α:=Int) (λg=>
ak (α:=Int×Int) (λo a f=>
ab (decide (a.2<((List.length d:Nat):Int)))
(ab (decide (a.1<=b))
(0<=a.2/\∃(i:List PV),(d)[Int.toNat a.2]?=some i/\
∃l k,ay i 6 1=some [.list 7 l k]/\
aa prog 17 [.list 7 l k,pI b,pI (IntKind.wrap .i64 (e+1))] f λr q=>
∃m,r=(pI m)/\
o ((IntKind.wrap .i64 (a.1+(IntKind.wrap .i64 (1+m)))),(IntKind.wrap .i64 (a.2+1))) q)
(g a.1 f))
(g a.1 f))
(0,0) u0)
(λj p=>
K (pI (if(IntKind.wrap .i64 (b+1))<j then(IntKind.wrap .i64 (b+1))else j)) p))):aa prog 17 [.list 7 n d,pI b,pI e] u0 K:=
VC [] [(5,⟨[(7,.one (.raw (.int .i64))),(8,.one (.raw (.int .i64)))],[]⟩)] [(8,⟨[(7,.one (.raw (.int .i64)))],[]⟩)] [] [] [] [] func17 h
theorem jN.c{t:Fl}{d:Lq}(h:
ak (α:=Int) (λu b a=>
ab (decide (b<((List.length d:Nat):Int)))
(0<=b/\∃(g:List PV),(d)[Int.toNat b]?=some g/\
∃y z l m e n f A p o,ay g 0 7=some [pI y,pB z,pS l,.list 6 m e,.list 6 n f,pB A,.list 7 p o]/\
ab (decide ((((ByteArray.size l:Nat):Int):Int)>100))
(K (pB true) a)
(ab (decide (((List.length e:Nat):Int)>10))
(K (pB true) a)
(ab (decide (((List.length f:Nat):Int)>10))
(K (pB true) a)
(aa prog 70 [.list 6 m e] a λv i=>
∃q,v=(pB q)/\
ab q
(K (pB true) i)
(aa prog 70 [.list 6 n f] i λw j=>
∃r,w=(pB r)/\
ab r
(K (pB true) j)
(aa prog 18 [.list 7 p o] j λx k=>
∃s,x=(pB s)/\
ab s
(K (pB true) k)
(u (IntKind.wrap .i64 (b+1)) k)))))))
(K (pB false) a))
(0) u0):aa prog 18 [.list 7 t d] u0 K:=
VC [4] [(2,⟨[(3,.one (.raw (.int .i64)))],[]⟩)] [] [] [] [] [] func18 h
theorem uI.c(h:
aa prog 52 [pI 10,pI 10] u0 λb8 m=>
∃f s,b8=(.aD [pA f,pI s])/\
ab (s != 0)
(K (pB false) m)
(ab (Option.isNone f)
(K (pB false) m)
(aa prog 53 [pS ⟨#[120]⟩] m λb9 a7=>
∃t u v,b9=(.agg [pI t,pS u,pI v])/\
aa prog 54 [pS ⟨#[]⟩,.agg [pI t,pS u,pI v]] a7 λc9 b2=>
∃d7 w,c9=(.list 6 d7 w)/\
aa prog 54 [pS ⟨#[118]⟩,.agg [pI 0,pS ⟨#[]⟩,pI 0]] b2 λd0 b3=>
∃d8 x,d0=(.list 6 d8 x)/\
aa prog 53 [pS ⟨#[121]⟩] b3 λd1 b4=>
∃y z A,d1=(.agg [pI y,pS z,pI A])/\
aa prog 54 [pS ⟨#[]⟩,.agg [pI y,pS z,pI A]] b4 λd2 b5=>
∃d9 B,d2=(.list 6 d9 B)/\
aa prog 54 [pS ⟨#[118]⟩,.agg [pI 0,pS ⟨#[]⟩,pI 0]] b5 λd3 b6=>
∃e0 C,d3=(.list 6 e0 C)/\
aa prog 53 [pS ⟨#[122]⟩] b6 λd4 b7=>
∃D E F,d4=(.agg [pI D,pS E,pI F])/\
aa prog 55 [pS ⟨#[83]⟩,pI 1] b7 λd5 a=>
∃i j k,d5=(.agg [pI i,pS j,pI k])/\
dz prog 53 [pS ⟨#[120]⟩] a λd6 b=>
∃G H I,d6=(.agg [pI G,pS H,pI I])/\
dz prog 56 [pI 1] (Mem.or a b) λc0 d=>
∃J L M,c0=(.agg [pI J,pS L,pI M])/\
dz prog 53 [pS ⟨#[120]⟩] (Mem.or (Mem.or a b) d) λc1 g=>
∃N O P,c1=(.agg [pI N,pS O,pI P])/\
dz prog 56 [pI 2] (Mem.or (Mem.or (Mem.or a b) d) g) λc2 n=>
∃Q R S,c2=(.agg [pI Q,pS R,pI S])/\
dz prog 53 [pS ⟨#[121]⟩] (Mem.or (Mem.or (Mem.or (Mem.or a b) d) g) n) λc3 r=>
∃T U V,c3=(.agg [pI T,pS U,pI V])/\
dz prog 56 [pI 2] (Mem.or (Mem.or (Mem.or (Mem.or (Mem.or a b) d) g) n) r) λc4 a8=>
∃W X Y,c4=(.agg [pI W,pS X,pI Y])/\
aa prog 41 [pA f,.agg [pS ⟨#[97]⟩,.list 7 .sh [[pI 1,pB true,pS ⟨#[115]⟩,.list 6 .sh w,.list 6 .sh x,pB false,.list 7 .sh []],[pI 2,pB false,pS ⟨#[115]⟩,.list 6 .sh B,.list 6 .sh C,pB false,.list 7 .sh []]],.list 19 .sh [[pS ⟨#[115]⟩,pS ⟨#[]⟩,pI D,pS E,pI F,pI 0,pS ⟨#[118]⟩,pI 0,pS ⟨#[]⟩,pI 0,pS ⟨#[]⟩,pI 0,pS ⟨#[]⟩,pI 0,pI 1,pS ⟨#[]⟩,pI 0,pS ⟨#[]⟩,pI 0]]]] (Mem.or (Mem.or (Mem.or (Mem.or (Mem.or (Mem.or a b) d) g) n) r) a8) λc5 a9=>
∃Z,c5=(pI Z)/\
aa prog 39 [pA f,.list 12 .nr [[pI i,pS j,pI k,pI G,pS H,pI I,pI J,pS L,pI M,pB false,pB true,pI 1],[pI i,pS j,pI k,pI N,pS O,pI P,pI Q,pS R,pI S,pB false,pB true,pI 2],[pI i,pS j,pI k,pI T,pS U,pI V,pI W,pS X,pI Y,pB false,pB true,pI 3]],.list 1 .nil []] a9 λc6 b0=>
∃a0,c6=(pI a0)/\
aa prog 58 [pA f] b0 λc7 b1=>
∃a1 a2 a3,c7=(.fn a1 a2 a3)/\
aa prog 23 [.fn a1 a2 a3] b1 λc8 e=>
∃e1 l,c8=(.list 2 e1 l)/\
ab (Z == 0)
(ab (a0 == 0)
(ab (((List.length l:Nat):Int) == 1)
((0:Int)<=0/\∃(o:List PV),(l)[Int.toNat 0]?=some o/\
∃e2 a4,ay o 1 1=some [.list 1 e2 a4]/\
ab (((List.length a4:Nat):Int) == 1)
((0:Int)<=0/\∃(p:List PV),(l)[Int.toNat 0]?=some p/\
∃e3 a5,ay p 1 1=some [.list 1 e3 a5]/\
(0:Int)<=0/\∃(q:List PV),(a5)[Int.toNat 0]?=some q/\
∃a6,ay q 0 1=some [pI a6]/\
K (pB (a6 == 1)) e)
(K (pB false) e))
(K (pB false) e))
(K (pB false) e))
(K (pB false) e)))):aa prog 19 [] u0 K:=
VC [3,4] [] [] [] [] [] [] func19 h
theorem gX.c{a:ByteArray}{d f:Fl}{b e:Lq}(h:
dz prog 71 [.list 7 d b] u0 λn g=>
∃l k,n=(.list 7 l k)/\
dz prog 72 [.list 19 f e] (Mem.or u0 g) λo m=>
∃j i,o=(.list 19 j i)/\
K (.agg [pS a,.list 7 l k,.list 19 j i]) (Mem.or (Mem.or u0 g) m)):aa prog 20 [.agg [pS a,.list 7 d b,.list 19 f e]] u0 K:=
VC [1,2] [] [] [] [] [] [] func20 h
theorem Fu.c{a:ByteArray}{g i:Fl}{b d:Lq}(h:
aa prog 73 [.agg [pS a,.list 7 .sh b,.list 19 .sh d]] u0 λk j=>
∃e f m l,k=(.aD [pI e,pI f,.list 1 m l])/\
K (.aD [pI e,pI f]) j):aa prog 21 [.agg [pS a,.list 7 g b,.list 19 i d]] u0 K:=
VC [1] [] [] [] [] [] [] func21 h
theorem tw.c{c3 c4:Fl}{r u:Lq}(h:
aa prog 52 [pI 200,pI 400] u0 λd6 x=>
∃b P,d6=(.aD [pA b,pI P])/\
ab (P != 0)
(K (.aD [pA none,pA none]) x)
(ab (Option.isNone b)
(K (.aD [pA none,pA none]) x)
(bJ x 47 [pI 200,pI 400,.list 3 .nil [],.list 12 .nil [],.list 1 .nil [],.list 1 .nil []] λe c5=>
ak (α:=Int) (λv d y=>
ab (decide (d<((List.length r:Nat):Int)))
(0<=d/\∃(F:List PV),(r)[Int.toNat d]?=some F/\
∃z f4 A f5 B,ay F 0 3=some [pS z,.list 7 f4 A,.list 19 f5 B]/\
0<=d/\∃(s:List PV),(r)[Int.toNat d]?=some s/\
(∃W g2 Z g5 a2,ay s 0 3=some [pS W,.list 7 g2 Z,.list 19 g5 a2]/\
(aa prog 20 [.agg [pS z,.list 7 .sh A,.list 19 .sh B]] y λd7 d1=>
∃Q f7 R f9 S,d7=(.agg [pS Q,.list 7 f7 R,.list 19 f9 S])/\
(aa prog 41 [pA b,.agg [pS Q,.list 7 .sh R,.list 19 .sh S]] d1 λe6 d2=>
∃T,e6=(pI T)/\
(aa prog 20 [.agg [pS W,.list 7 .sh Z,.list 19 .sh a2]] d2 λe7 d3=>
∃a5 g8 a8 h1 b1,e7=(.agg [pS a5,.list 7 g8 a8,.list 19 h1 b1])/\
(aa prog 42 [pP e 0,.agg [pS a5,.list 7 .sh a8,.list 19 .sh b1]] d3 λe8 N=>
∃b4,e8=(pI b4)/\
ab (T != b4)
(K (.aD [pA none,pA none]) N)
(v (IntKind.wrap .i64 (d+1)) N))/\
True)/\
True)/\
True)/\
True)/\
(aa prog 20 [.agg [pS z,.list 7 .sh A,.list 19 .sh B]] y λe9 O=>
∃C f6 D f8 E,e9=(.agg [pS C,.list 7 f6 D,.list 19 f8 E])/\
(∃X g0 a0 g3 a3,ay s 0 3=some [pS X,.list 7 g0 a0,.list 19 g3 a3]/\
(aa prog 41 [pA b,.agg [pS C,.list 7 .sh D,.list 19 .sh E]] O λf0 d4=>
∃U,f0=(pI U)/\
(aa prog 20 [.agg [pS X,.list 7 .sh a0,.list 19 .sh a3]] d4 λf1 d5=>
∃a6 g6 a9 g9 b2,f1=(.agg [pS a6,.list 7 g6 a9,.list 19 g9 b2])/\
(aa prog 42 [pP e 0,.agg [pS a6,.list 7 .sh a9,.list 19 .sh b2]] d5 λf2 H=>
∃b5,f2=(pI b5)/\
ab (U != b5)
(K (.aD [pA none,pA none]) H)
(v (IntKind.wrap .i64 (d+1)) H))/\
True)/\
True)/\
True)/\
(aa prog 41 [pA b,.agg [pS C,.list 7 .sh D,.list 19 .sh E]] O λf3 c6=>
∃V,f3=(pI V)/\
∃Y g1 a1 g4 a4,ay s 0 3=some [pS Y,.list 7 g1 a1,.list 19 g4 a4]/\
(aa prog 20 [.agg [pS Y,.list 7 .sh a1,.list 19 .sh a4]] c6 λd8 c7=>
∃a7 g7 b0 h0 b3,d8=(.agg [pS a7,.list 7 g7 b0,.list 19 h0 b3])/\
(aa prog 42 [pP e 0,.agg [pS a7,.list 7 .sh b0,.list 19 .sh b3]] c7 λd9 I=>
∃b6,d9=(pI b6)/\
ab (V != b6)
(K (.aD [pA none,pA none]) I)
(v (IntKind.wrap .i64 (d+1)) I))/\
True)/\
True)/\
True)/\
True)
(ak (α:=Int) (λw a t=>
ab (decide (a<((List.length u:Nat):Int)))
(0<=a/\∃(G:List PV),(u)[Int.toNat a]?=some G/\
∃f g i j k l m n o p q h2,ay G 0 12=some [pI f,pS g,pI i,pI j,pS k,pI l,pI m,pS n,pI o,pB p,pB q,pI h2]/\
((aa prog 39 [pA b,.list 12 .nr [[pI f,pS g,pI i,pI j,pS k,pI l,pI m,pS n,pI o,pB p,pB q,pI (IntKind.wrap .i64 (a+1))]],.list 1 .nil []] t λe0 c8=>
∃b7,e0=(pI b7)/\
((aa prog 40 [pP e 0,.list 12 .nr [[pI f,pS g,pI i,pI j,pS k,pI l,pI m,pS n,pI o,pB p,pB q,pI (IntKind.wrap .i64 (a+1))]],.list 1 .nil []] c8 λe1 J=>
∃c0,e1=(pI c0)/\
ab (b7 != c0)
(K (.aD [pA none,pA none]) J)
(w (IntKind.wrap .i64 (a+1)) J))/\
True)/\
True)/\
((aa prog 39 [pA b,.list 12 .nr [[pI f,pS g,pI i,pI j,pS k,pI l,pI m,pS n,pI o,pB p,pB q,pI (IntKind.wrap .i64 (a+1))]],.list 1 .nil []] t λe2 c9=>
∃b8,e2=(pI b8)/\
(aa prog 40 [pP e 0,.list 12 .nr [[pI f,pS g,pI i,pI j,pS k,pI l,pI m,pS n,pI o,pB p,pB q,pI (IntKind.wrap .i64 (a+1))]],.list 1 .nil []] c9 λe3 L=>
∃c1,e3=(pI c1)/\
ab (b8 != c1)
(K (.aD [pA none,pA none]) L)
(w (IntKind.wrap .i64 (a+1)) L))/\
True)/\
True)/\
True)/\
(aa prog 39 [pA b,.list 12 .nr [[pI f,pS g,pI i,pI j,pS k,pI l,pI m,pS n,pI o,pB p,pB q,pI (IntKind.wrap .i64 (a+1))]],.list 1 .nil []] t λe4 d0=>
∃b9,e4=(pI b9)/\
((aa prog 40 [pP e 0,.list 12 .nr [[pI f,pS g,pI i,pI j,pS k,pI l,pI m,pS n,pI o,pB p,pB q,pI (IntKind.wrap .i64 (a+1))]],.list 1 .nil []] d0 λe5 M=>
∃c2,e5=(pI c2)/\
ab (b9 != c2)
(K (.aD [pA none,pA none]) M)
(w (IntKind.wrap .i64 (a+1)) M))/\
True)/\
True)/\
True)
(K (.aD [pA b,pP e 0]) t))
(0) y))
(0) c5))):aa prog 22 [.list 3 c3 r,.list 12 c4 u] u0 K:=
VC [11,1000008,1000016] [(6,⟨[(9,.one (.raw (.int .i64)))],[]⟩),(11,⟨[(10,.one (.raw (.int .i64)))],[]⟩)] [] [] [] [] [] func22 h
theorem mV.c{f:Fn}{g i:List PV}(h:
bJ u0 48 [.list 2 .nil []] λa r=>
bk prog (.fn f g i) (λu o j=>
∃b v d,u=[.agg [pS b,.list 1 v d]]/\
∃n e,aB j a 0 1=some [.list 2 n e]/\
aV false 2 40 n e [[pS b,.list 1 .sh d]] j λp s=>
stM a 0 [.list 2 p (e++[[pS b,.list 1 .sh d]])] s λt=>
o none t)
(λq k=>
PK q
(∃m l,aB k a 0 1=some [.list 2 m l]/\
K (.list 2 m l) k)
(False)
[])
r):aa prog 23 [.fn f g i] u0 K:=
VC [4] [] [] [(8,[51])] [] [] [] func23 h
theorem uF.c{m:ByteArray}{i P:Fl}{b d:Lq}(h:
aa prog 78 [.agg [pS m,.list 7 .sh b,.list 19 .sh d]] u0 λR j=>
∃u l,R=(.aD [pI u,pI l])/\
ab (l != 0)
(K (.aD [pI u,pI l]) j)
((0:Int)<=0/\∃(o:List PV),(b)[Int.toNat 0]?=some o/\
∃v,ay o 0 1=some [pI v]/\
ab (v != 1)
(K (.aD [pI 0,pI 9]) j)
(aa prog 79 [.list 7 i b,pI 0,.list 1 .nil []] j λS q=>
∃f e w x,S=(.aD [.list 1 f e,pI w,pB x])/\
ab (!x)
(K (.aD [pI w,pI 6]) q)
(aa prog 80 [.list 7 i b] q λT Q=>
∃g,T=(pI g)/\
ak (α:=Int) (λn a r=>
ab (decide (a<((List.length d:Nat):Int)))
(0<=a/\∃(p:List PV),(d)[Int.toNat a]?=some p/\
∃X y z A B C D E F G H I J L Y Z a0 a1 a2,ay p 0 19=some [pS X,pS y,pI z,pS A,pI B,pI C,pS D,pI E,pS F,pI G,pS H,pI I,pS J,pI L,pI Y,pS Z,pI a0,pS a1,pI a2]/\
aa prog 81 [.agg [pS y,pI z,pS A,pI B],.list 1 f e] r λU k=>
∃M,U=(pB M)/\
ab (!M)
(K (.aD [pI (IntKind.wrap .i64 (g+a)),pI 6]) k)
(ab (C != 0)
(aa prog 81 [.agg [pS D,pI E,pS F,pI G],.list 1 f e] k λV s=>
∃N,V=(pB N)/\
ab (!N)
(K (.aD [pI (IntKind.wrap .i64 (g+a)),pI 6]) s)
(aa prog 81 [.agg [pS H,pI I,pS J,pI L],.list 1 f e] s λW t=>
∃O,W=(pB O)/\
ab (!O)
(K (.aD [pI (IntKind.wrap .i64 (g+a)),pI 6]) t)
(n (IntKind.wrap .i64 (a+1)) t)))
(n (IntKind.wrap .i64 (a+1)) k)))
(K (.aD [pI (-1),pI 0]) r))
(0) Q)))):aa prog 26 [.agg [pS m,.list 7 i b,.list 19 P d]] u0 K:=
VC [1,10] [(11,⟨[(9,.one (.raw (.int .i64)))],[]⟩)] [] [] [] [] [] func26 h
theorem yO.c{S:Option Addr}{n9 o0:Fl}{g E:Lq}(h:
bJ u0 39 [pA S] λa q4=>
ak (α:=Int×Int) (λo8 e a0=>
ab (decide (e.2<((List.length g:Nat):Int)))
(0<=e.2/\∃(X:List PV),(g)[Int.toNat e.2]?=some X/\
∃k1 k2 k3 k4 k5 k6 k7 k8 k9 l0 l1 R,ay X 0 12=some [pI k1,pS k2,pI k3,pI k4,pS k5,pI k6,pI k7,pS k8,pI k9,pB l0,pB l1,pI R]/\
aa prog 90 [.agg [pI k1,pS k2,pI k3,pI k4,pS k5,pI k6,pI k7,pS k8,pI k9,pB l0,pB l1,pI R]] a0 λs8 H=>
∃l2,s8=(pB l2)/\
ab (!l2)
(K (pI 9) H)
(ab (decide (R<1))
(K (pI 9) H)
(o8 (e.1,(IntKind.wrap .i64 (e.2+1))) H)))
(aa prog 91 [.list 12 .nil []] a0 λs9 r5=>
∃j,s9=(pA j)/\
ak (α:=Int×Int) (λo9 f N=>
ab (decide (f.2<((List.length E:Nat):Int)))
(0<=f.2/\∃(Y:List PV),(E)[Int.toNat f.2]?=some Y/\
∃l3,ay Y 0 1=some [pI l3]/\
∃l4,aB N a 0 1=some [pA l4]/\
aa prog 92 [pA l4,pI l3] N λu1 a8=>
∃l5 l6 l7 l8 l9 m0 m1 m2 m3 m4 m5 m6 m7,u1=(.aD [.agg [pI l5,pS l6,pI l7,pI l8,pS l9,pI m0,pI m1,pS m2,pI m3,pB m4,pB m5,pI m6],pB m7])/\
ab (!m7)
(K (pI 4) a8)
(aa prog 93 [pA j,.agg [pI l5,pS l6,pI l7,pI l8,pS l9,pI m0,pI m1,pS m2,pI m3,pB m4,pB m5,pI m6]] a8 λu5 a9=>
∃m8,u5=(pB m8)/\
ab (!m8)
(K (pI 4) a9)
(o9 (f.1,(IntKind.wrap .i64 (f.2+1))) a9)))
(aa prog 91 [.list 12 .nil []] N λu6 s6=>
∃k,u6=(pA k)/\
ak (α:=Int×Int) (λT d O=>
ab (decide (d.2<((List.length g:Nat):Int)))
(0<=d.2/\∃(Z:List PV),(g)[Int.toNat d.2]?=some Z/\
∃s t u v w x y z A B C l,ay Z 0 12=some [pI s,pS t,pI u,pI v,pS w,pI x,pI y,pS z,pI A,pB B,pB C,pI l]/\
∃m9,aB O a 0 1=some [pA m9]/\
aa prog 92 [pA m9,pI l] O λu7 s7=>
∃x3 x4 x5 x6 x7 x8 x9 y0 y1 y2 y3 y4 n0,u7=(.aD [.agg [pI x3,pS x4,pI x5,pI x6,pS x7,pI x8,pI x9,pS y0,pI y1,pB y2,pB y3,pI y4],pB n0])/\
aa prog 94 [pA j,.agg [pI s,pS t,pI u,pI v,pS w,pI x,pI y,pS z,pI A,pB B,pB C,pI l]] s7 λu8 G=>
∃y5 n1,u8=(.aD [pI y5,pB n1])/\
ab n0
(ab (!n1)
(K (pI 3) G)
(aa prog 93 [pA k,.agg [pI s,pS t,pI u,pI v,pS w,pI x,pI y,pS z,pI A,pB B,pB C,pI l]] G λu9 a1=>
∃n2,u9=(pB n2)/\
ab (!n2)
(K (pI 3) a1)
(T (d.1,(IntKind.wrap .i64 (d.2+1))) a1)))
(aa prog 93 [pA k,.agg [pI s,pS t,pI u,pI v,pS w,pI x,pI y,pS z,pI A,pB B,pB C,pI l]] G λv0 a2=>
∃n3,v0=(pB n3)/\
ab (!n3)
(K (pI 3) a2)
(T (d.1,(IntKind.wrap .i64 (d.2+1))) a2)))
(aa prog 95 [.list 1 .nil []] O λv1 q5=>
∃b0,v1=(pA b0)/\
bJ q5 177 [pA none] λm q6=>
stM m 0 [pA b0] q6 λq7=>
aa prog 87 [pA j] q7 λt0 q8=>
∃b1 b2 b3,t0=(.fn b1 b2 b3)/\
bk prog (.fn b1 b2 b3) (λv2 n4 a3=>
∃b4 b5 b6 b7 b8 b9 c0 c1 c2 c3 c4 c5,v2=[.agg [pI b4,pS b5,pI b6,pI b7,pS b8,pI b9,pI c0,pS c1,pI c2,pB c3,pB c4,pI c5]]/\
∃c6,aB a3 a 0 1=some [pA c6]/\
aa prog 96 [pA c6,.agg [pI b4,pS b5,pI b6,pI b7,pS b8,pI b9,pI c0,pS c1,pI c2,pB c3,pB c4,pI c5]] a3 λt1 r0=>
∃v7 P,t1=(.list 1 v7 P)/\
ak (α:=Int) (λp0 o I=>
ab (decide (o<((List.length P:Nat):Int)))
(0<=o/\∃(U:List PV),(P)[Int.toNat o]?=some U/\
∃c7,ay U 0 1=some [pI c7]/\
∃c8,aB I m 0 1=some [pA c8]/\
aa prog 97 [pA c8,pI c7] I λt2 r1=>
∃v8,t2=(pB v8)/\
p0 (IntKind.wrap .i64 (o+1)) r1)
(n4 none I))
(0) r0)
(λp9 q9=>
PK p9
(aa prog 87 [pA k] q9 λt3 r2=>
∃c9 d0 d1,t3=(.fn c9 d0 d1)/\
bk prog (.fn c9 d0 d1) (λv3 n5 a4=>
∃d2 d3 d4 d5 d6 d7 d8 d9 e0 e1 e2 e3,v3=[.agg [pI d2,pS d3,pI d4,pI d5,pS d6,pI d7,pI d8,pS d9,pI e0,pB e1,pB e2,pI e3]]/\
∃e4,aB a4 a 0 1=some [pA e4]/\
aa prog 88 [pA e4,.agg [pI d2,pS d3,pI d4,pI d5,pS d6,pI d7,pI d8,pS d9,pI e0,pB e1,pB e2,pI e3]] a4 λt4 r3=>
∃v9 Q,t4=(.list 1 v9 Q)/\
ak (α:=Int) (λp1 p J=>
ab (decide (p<((List.length Q:Nat):Int)))
(0<=p/\∃(V:List PV),(Q)[Int.toNat p]?=some V/\
∃e5,ay V 0 1=some [pI e5]/\
∃e6,aB J m 0 1=some [pA e6]/\
aa prog 97 [pA e6,pI e5] J λt5 r4=>
∃w0,t5=(pB w0)/\
p1 (IntKind.wrap .i64 (p+1)) r4)
(n5 none J))
(0) r3)
(λq0 b=>
PK q0
(bZ (α:=Int) (λD=>
∃e7,aB b a 0 1=some [pA e7]/\
∃e8,aB b a 0 1=some [pA e8]/\
nP e8 λo1 p2=>
∃e9,aB b o1 (p2+2) 1=some [pA e9]/\
∃f0,aB b a 0 1=some [pA f0]/\
nP f0 λo2 p3=>
∃f1,aB b o2 (p3+2) 1=some [pA f1]/\
nP f1 λo3 p4=>
∃f3 f2,aB b o3 (p4+9) 1=some [.list 2 f3 f2]/\
∃f4,aB b m 0 1=some [pA f4]/\
aa prog 98 [pA e7,pA e9,.list 2 f3 f2,pB false,pA f4] b λt6 a5=>
∃f5,t6=(pB f5)/\
ab (!f5)
(D 25 a5)
(bJ a5 3 [pI 0] λn r6=>
stM n 0 [pI 0] r6 λL=>
∃f6,aB L a 0 1=some [pA f6]/\
nP f6 λo4 p5=>
∃f7,aB L o4 (p5+6) 1=some [pA f7]/\
aa prog 89 [pA f7] L λt7 r7=>
∃f8 f9 g0,t7=(.fn f8 f9 g0)/\
bk prog (.fn f8 f9 g0) (λv4 n6 M=>
∃w1 w2 w4 w3 w6 w5 w7 r,v4=[pS w1,.agg [pS w2,.list 7 w4 w3,.list 19 w6 w5,.list 1 w7 r]]/\
∃g1,aB M n 0 1=some [pI g1]/\
0<=(IntKind.wrap .i64 (((List.length r:Nat):Int)-1))/\∃(W:List PV),(r)[Int.toNat (IntKind.wrap .i64 (((List.length r:Nat):Int)-1))]?=some W/\
∃g2,ay W 0 1=some [pA g2]/\
nP g2 λo5 p6=>
∃w8 g3,aB M o5 (p6+12) 1=some [.list 2 w8 g3]/\
stM n 0 [pI (IntKind.wrap .i64 (g1+((List.length g3:Nat):Int)))] M λr8=>
n6 none r8)
(λq1 i=>
PK q1
(∃g4,aB i n 0 1=some [pI g4]/\
∃g5,aB i a 0 1=some [pA g5]/\
nP g5 λo6 p7=>
∃g6,aB i o6 (p7+1) 1=some [pI g6]/\
ab (decide (g4>g6))
(D 26 i)
(D 0 i))
(False)
[])
r7))
(λF q=>
ab (F == 0)
(∃g7,aB q a 0 1=some [pA g7]/\
nP g7 λo7 p8=>
∃g8,aB q o7 (p8+2) 1=some [pA g8]/\
aa prog 99 [pA g8] q λt8 r9=>
 t8=(.aD [])/\
K (pI F) r9)
(aa prog 87 [pA k] q λt9 s0=>
∃g9 h0 h1,t9=(.fn g9 h0 h1)/\
bk prog (.fn g9 h0 h1) (λv5 n7 a6=>
∃h2 h3 h4 h5 h6 h7 h8 h9 i0 i1 i2 i3,v5=[.agg [pI h2,pS h3,pI h4,pI h5,pS h6,pI h7,pI h8,pS h9,pI i0,pB i1,pB i2,pI i3]]/\
∃i4,aB a6 a 0 1=some [pA i4]/\
aa prog 96 [pA i4,.agg [pI h2,pS h3,pI h4,pI h5,pS h6,pI h7,pI h8,pS h9,pI i0,pB i1,pB i2,pI i3]] a6 λu2 s2=>
∃x0 w9,u2=(.list 1 x0 w9)/\
n7 none s2)
(λq2 s1=>
PK q2
(aa prog 87 [pA j] s1 λu3 s3=>
∃i5 i6 i7,u3=(.fn i5 i6 i7)/\
bk prog (.fn i5 i6 i7) (λv6 n8 a7=>
∃i8 i9 j0 j1 j2 j3 j4 j5 j6 j7 j8 j9,v6=[.agg [pI i8,pS i9,pI j0,pI j1,pS j2,pI j3,pI j4,pS j5,pI j6,pB j7,pB j8,pI j9]]/\
∃k0,aB a7 a 0 1=some [pA k0]/\
aa prog 88 [pA k0,.agg [pI i8,pS i9,pI j0,pI j1,pS j2,pI j3,pI j4,pS j5,pI j6,pB j7,pB j8,pI j9]] a7 λu4 s5=>
∃x2 x1,u4=(.list 1 x2 x1)/\
n8 none s5)
(λq3 s4=>
PK q3
(K (pI F) s4)
(False)
[])
s3)
(False)
[])
s0)))
(False)
[])
r2)
(False)
[])
q8))
(f.1,0) s6))
(e.1,0) r5))
(0,0) q4):aa prog 39 [pA S,.list 12 n9 g,.list 1 o0 E] u0 K:=
VC [8,12,16,17,22,25,31,32,33] [(2,⟨[(6,.one (.raw (.int .i64))),(36,.one (.raw (.int .i64)))],[]⟩),(9,⟨[(6,.one (.raw (.int .i64))),(52,.one (.raw (.int .i64)))],[]⟩),(17,⟨[(6,.one (.raw (.int .i64))),(74,.one (.raw (.int .i64)))],[]⟩),(28,⟨[(111,.one (.raw (.int .i64)))],[]⟩),(35,⟨[(126,.one (.raw (.int .i64)))],[]⟩)] [(48,⟨[(28,.one (.raw (.int .i64)))],[]⟩)] [(106,[163]),(121,[163]),(154,[139,129]),(186,[163]),(192,[163])] [] [] [] func39 h
theorem tx.c{g:Option Addr}{c2 c3:Fl}{e l:Lq}(h:
ak (α:=Int) (λc9 f m=>
ab (decide (f<((List.length e:Nat):Int)))
(0<=f/\∃(S:List PV),(e)[Int.toNat f]?=some S/\
∃a2 a3 a4 a5 a6 a7 a8 a9 b0 b1 b2 b3,ay S 0 12=some [pI a2,pS a3,pI a4,pI a5,pS a6,pI a7,pI a8,pS a9,pI b0,pB b1,pB b2,pI b3]/\
aa prog 100 [.agg [pI a2,pS a3,pI a4,pI a5,pS a6,pI a7,pI a8,pS a9,pI b0,pB b1,pB b2,pI b3]] m λe1 n=>
∃b4,e1=(pB b4)/\
ab (!b4)
(K (pI 9) n)
(0<=f/\∃(T:List PV),(e)[Int.toNat f]?=some T/\
∃b5,ay T 11 1=some [pI b5]/\
ab (decide (b5<1))
(K (pI 9) n)
(c9 (IntKind.wrap .i64 (f+1)) n)))
(nP g λc4 d3=>
∃C B,aB m c4 (d3+3) 1=some [.list 12 C B]/\
ak (α:=(Fl×Lq)×Int) (λd0 d a0=>
ab (decide (d.2<((List.length l:Nat):Int)))
(ak (α:=(Fl×Lq)×Int) (λQ a j=>
ab (decide (a.2<((List.length d.1.2:Nat):Int)))
(0<=a.2/\∃(U:List PV),(d.1.2)[Int.toNat a.2]?=some U/\
∃b6,ay U 11 1=some [pI b6]/\
0<=d.2/\∃(V:List PV),(l)[Int.toNat d.2]?=some V/\
∃b7,ay V 0 1=some [pI b7]/\
ab (b6 != b7)
(0<=a.2/\∃(W:List PV),(d.1.2)[Int.toNat a.2]?=some W/\
∃D E F G H I J L M N O P,ay W 0 12=some [pI D,pS E,pI F,pI G,pS H,pI I,pI J,pS L,pI M,pB N,pB O,pI P]/\
aV false 12 112 a.1.1 a.1.2 [[pI D,pS E,pI F,pI G,pS H,pI I,pI J,pS L,pI M,pB N,pB O,pI P]] j λc8 d7=>
Q ((c8,(a.1.2++[[pI D,pS E,pI F,pI G,pS H,pI I,pI J,pS L,pI M,pB N,pB O,pI P]])),(IntKind.wrap .i64 (a.2+1))) d7)
(Q ((a.1.1,a.1.2),(IntKind.wrap .i64 (a.2+1))) j))
(ab (((List.length a.1.2:Nat):Int) == ((List.length d.1.2:Nat):Int))
(K (pI 4) j)
(d0 ((a.1.1,a.1.2),(IntKind.wrap .i64 (d.2+1))) j)))
((.nil,[]),0) a0)
(aa prog 101 [.list 12 d.1.1 d.1.2] a0 λe2 d8=>
∃b9 b8,e2=(.list 12 b9 b8)/\
ak (α:=(Fl×Lq)×Int) (λd1 b a1=>
ab (decide (b.2<((List.length e:Nat):Int)))
(ak (α:=Int) (λd2 i o=>
ab (decide (i<((List.length b.1.2:Nat):Int)))
(0<=i/\∃(X:List PV),(b.1.2)[Int.toNat i]?=some X/\
∃c0,ay X 11 1=some [pI c0]/\
0<=b.2/\∃(Y:List PV),(e)[Int.toNat b.2]?=some Y/\
∃c1,ay Y 11 1=some [pI c1]/\
ab (c0 == c1)
(K (pI 3) o)
(d2 (IntKind.wrap .i64 (i+1)) o))
(0<=b.2/\∃(R:List PV),(e)[Int.toNat b.2]?=some R/\
∃p q r s t u v w x y z A,ay R 0 12=some [pI p,pS q,pI r,pI s,pS t,pI u,pI v,pS w,pI x,pB y,pB z,pI A]/\
aV false 12 112 b.1.1 b.1.2 [[pI p,pS q,pI r,pI s,pS t,pI u,pI v,pS w,pI x,pB y,pB z,pI A]] o λc7 d9=>
d1 ((c7,(b.1.2++[[pI p,pS q,pI r,pI s,pS t,pI u,pI v,pS w,pI x,pB y,pB z,pI A]])),(IntKind.wrap .i64 (b.2+1))) d9))
(0) a1)
(nP g λc5 d4=>
stM c5 (d4+3) [.list 12 b.1.1 b.1.2] a1 λe0=>
aa prog 102 [pA g] e0 λe3 Z=>
∃k,e3=(pI k)/\
ab (k != 0)
(nP g λc6 d5=>
stM c6 (d5+3) [.list 12 C B] Z λd6=>
K (pI k) d6)
(K (pI k) Z)))
((b9,b8),0) d8))
((C,B),0) m))
(0) u0):aa prog 40 [pA g,.list 12 c2 e,.list 1 c3 l] u0 K:=
VC [] [(2,⟨[(7,.one (.raw (.int .i64)))],[]⟩),(9,⟨[(9,.one (.list 12)),(10,.one (.raw (.int .i64)))],[]⟩),(13,⟨[(11,.one (.list 12)),(12,.one (.raw (.int .i64)))],[]⟩),(22,⟨[(9,.one (.list 12)),(13,.one (.raw (.int .i64)))],[]⟩),(25,⟨[(14,.one (.raw (.int .i64)))],[]⟩)] [] [] [] [] [] func40 h
theorem Ex.c{b:Option Addr}{f:ByteArray}{d3 d4:Fl}{g m:Lq}(h:
aa prog 21 [.agg [pS f,.list 7 .sh g,.list 19 .sh m]] u0 λh8 l=>
∃j9 u,h8=(.aD [pI j9,pI u])/\
ab (u != 0)
(K (pI u) l)
(bZ (α:=Unit) (λE=>
nP b λd5 e9=>
∃v,aB l d5 (e9+6) 1=some [pA v]/\
(aa prog 75 [pA v,pS f] l λh9 h0=>
∃a2 a7 a4 b1 a8 b5 b2 b6,h9=(.aD [.agg [pS a2,.list 7 a7 a4,.list 19 b1 a8,.list 1 b5 b2],pB b6])/\
bJ h0 129 [pS ⟨#[]⟩,.list 7 .nil [],.list 19 .nil [],.list 1 .nil []] λd6 h5=>
stM d6 0 [pS a2,.list 7 a7 a4,.list 19 b1 a8,.list 1 b5 b2] h5 λO=>
ab b6
(K (pI 3) O)
(E () O))/\
(bJ l 129 [pS ⟨#[]⟩,.list 7 .nil [],.list 19 .nil [],.list 1 .nil []] λd7 h6=>
aa prog 75 [pA v,pS f] h6 λi5 h7=>
∃a3 a6 a5 b0 a9 b4 b3 b7,i5=(.aD [.agg [pS a3,.list 7 a6 a5,.list 19 b0 a9,.list 1 b4 b3],pB b7])/\
stM d7 0 [pS a3,.list 7 a6 a5,.list 19 b0 a9,.list 1 b4 b3] h7 λP=>
ab b7
(K (pI 3) P)
(E () P)))
(λk3 H=>
nP b λd8 f0=>
∃b8,aB H d8 (f0+2) 1=some [pA b8]/\
ak (α:=Option Addr×(Fl×Lq)×Int) (λe8 a d=>
ab (decide (a.2.2<((List.length g:Nat):Int)))
(0<=a.2.2/\∃(G:List PV),(g)[Int.toNat a.2.2]?=some G/\
∃w x y k0 z k1 A B k2 C,ay G 0 7=some [pI w,pB x,pS y,.list 6 k0 z,.list 6 k1 A,pB B,.list 7 k2 C]/\
aa prog 103 [pA a.1,.agg [pI w,pB x,pS y,.list 6 .sh z,.list 6 .sh A,pB B,.list 7 .sh C]] d λi6 Q=>
∃D,i6=(pA D)/\
bZ (α:=Option Addr) (λF=>
ab (Option.isNone D)
(aa prog 104 [pA b,.agg [pI w,pB x,pS y,.list 6 .sh z,.list 6 .sh A,pB B,.list 7 .sh C]] Q λi7 I=>
∃e,i7=(pA e)/\
nP a.1 λe1 f3=>
∃c0 b9,aB I e1 (f3+9) 1=some [.list 2 c0 b9]/\
aa prog 105 [pA b,pA e,.list 2 c0 b9] I λi8 J=>
∃c2 c1 c4 c3 c5,i8=(.aD [.list 2 c2 c1,.list 1 c4 c3,pB c5])/\
ab (!c5)
(aa prog 106 [pA b,pA e] J λi9 g4=>
 i9=(.aD [])/\
aa prog 85 [pA b,.list 1 a.2.1.1 a.2.1.2] g4 λj0 g5=>
 j0=(.aD [])/\
K (pI 25) g5)
(nP e λe2 f4=>
stM e2 (f4+9) [.list 2 c2 c1] J λg6=>
nP e λe3 f5=>
stM e3 (f5+10) [.list 1 c4 c3] g6 λL=>
nP a.1 λe4 f6=>
∃c6 c8 c7,aB L e4 (f6+7) 1=some [pV c6 c8 c7]/\
lZ 1 8 131 c6 c8 c7 (.list 1 .nr [[pA e]]) L λf9 g1 g0 g7=>
nP a.1 λe5 f7=>
stM e5 (f7+7) [pV f9 g1 g0] g7 λg8=>
F e g8))
(F D Q))
(λp g3=>
aV false 1 8 a.2.1.1 a.2.1.2 [[pA p]] g3 λe7 g9=>
e8 (p,(e7,(a.2.1.2++[[pA p]])),(IntKind.wrap .i64 (a.2.2+1))) g9))
(bZ (α:=Bool) (λi=>
nP a.1 λn o=>
nP b λj k=>
(∃j5 t,aB d n (o+9) 1=some [.list 2 j5 t]/\
(∃T,aB d j (k+1) 1=some [pI T]/\
(aa prog 107 [pA b] d λj1 h1=>
∃c9,j1=(pI c9)/\
i (decide (((IntKind.wrap .i64 (c9+((List.length t:Nat):Int))):Int)>T)) h1)/\
True)/\
(aa prog 107 [pA b] d λj2 M=>
∃d0,j2=(pI d0)/\
∃U,aB M j (k+1) 1=some [pI U]/\
i (decide (((IntKind.wrap .i64 (d0+((List.length t:Nat):Int))):Int)>U)) M)/\
True)/\
(∃V,aB d j (k+1) 1=some [pI V]/\
(aa prog 107 [pA b] d λi0 N=>
∃d1,i0=(pI d1)/\
∃j3 R,aB N n (o+9) 1=some [.list 2 j3 R]/\
i (decide (((IntKind.wrap .i64 (d1+((List.length R:Nat):Int))):Int)>V)) N)/\
True)/\
(aa prog 107 [pA b] d λi1 r=>
∃d2,i1=(pI d2)/\
∃j4 S,aB r n (o+9) 1=some [.list 2 j4 S]/\
∃W,aB r j (k+1) 1=some [pI W]/\
i (decide (((IntKind.wrap .i64 (d2+((List.length S:Nat):Int))):Int)>W)) r)/\
True)
(λg2 q=>
ab g2
(aa prog 85 [pA b,.list 1 a.2.1.1 a.2.1.2] q λi2 h2=>
 i2=(.aD [])/\
K (pI 26) h2)
(nP a.1 λe6 f8=>
∃X,aB q e6 (f8+11) 1=some [pI X]/\
nP a.1 λd9 f1=>
stM d9 (f1+11) [pI (IntKind.wrap .i64 (X+1))] q λs=>
nP b λe0 f2=>
∃Y,aB s e0 (f2+6) 1=some [pA Y]/\
dz prog 109 [.agg [pS f,.list 7 .sh g,.list 19 .sh m]] s λi3 h3=>
∃Z j6 a0 j7 a1,i3=(.agg [pS Z,.list 7 j6 a0,.list 19 j7 a1])/\
aa prog 108 [pA Y,pS f,.agg [pS Z,.list 7 .sh a0,.list 19 .sh a1,.list 1 .sh a.2.1.2]] (Mem.or s h3) λi4 h4=>
∃j8,i4=(pB j8)/\
K (pI 0) h4))))
(b8,(.nil,[]),0) H))):aa prog 41 [pA b,.agg [pS f,.list 7 d3 g,.list 19 d4 m]] u0 K:=
VC [3,12,1000026] [(10,⟨[(9,.one (.raw .ptr)),(10,.one (.list 1)),(43,.one (.raw (.int .i64)))],[]⟩)] [(7,⟨[],[]⟩),(23,⟨[(13,.one (.raw .ptr))],[]⟩),(27,⟨[(110,.one (.raw .bool))],[]⟩)] [] [] [] [85,86,89,91] func41 h
theorem sa.c{b:Option Addr}{d:ByteArray}{S T:Fl}{j k:Lq}(h:
aa prog 26 [.agg [pS d,.list 7 .sh j,.list 19 .sh k]] u0 λe5 A=>
∃f3 v,e5=(.aD [pI f3,pI v])/\
ab (v != 0)
(K (pI v) A)
(aa prog 86 [pA b,pS d] A λe6 B=>
∃f4 I,e6=(.aD [pI f4,pB I])/\
ab I
(K (pI 3) B)
(aa prog 110 [pA b,.agg [pS d,.list 7 .sh j,.list 19 .sh k]] B λe7 G=>
∃f5 r s J,e7=(.aD [.list 3 f5 r,pI s,pB J])/\
ab (!J)
(K (pI 25) G)
(ak (α:=Int×Int) (λb9 l n=>
nP b λU c1=>
∃f6 L,aB n U (c1+4) 1=some [.list 1 f6 L]/\
ab (decide (l.2<((List.length L:Nat):Int)))
(nP b λV c2=>
∃f7 M,aB n V (c2+4) 1=some [.list 1 f7 M]/\
0<=l.2/\∃(y:List PV),(M)[Int.toNat l.2]?=some y/\
∃f8 N,ay y 0 1=some [.list 3 f8 N]/\
b9 ((IntKind.wrap .i64 (l.1+((List.length N:Nat):Int))),(IntKind.wrap .i64 (l.2+1))) n)
(nP b λa0 c7=>
∃O,aB n a0 (c7+1) 1=some [pI O]/\
ab (decide (l.1>O))
(K (pI 26) n)
(bZ (α:=Int) (λw=>
ak (α:=Int) (λc0 m q=>
nP b λa1 c8=>
∃f9 P,aB q a1 (c8+2) 1=some [.list 3 f9 P]/\
ab (decide (m<((List.length P:Nat):Int)))
(nP b λa2 c9=>
∃g0 Q,aB q a2 (c9+2) 1=some [.list 3 g0 Q]/\
0<=m/\∃(z:List PV),(Q)[Int.toNat m]?=some z/\
∃R,ay z 0 1=some [pS R]/\
ab (Op.bytesLess (ByteArray.toList R) (ByteArray.toList d))
(c0 (IntKind.wrap .i64 (m+1)) q)
(w m q))
(w m q))
(0) n)
(λa u=>
bZ (α:=(Fl×Lq)) (λx=>
nP b λa3 d0=>
∃g1 i,aB u a3 (d0+2) 1=some [.list 3 g1 i]/\
(0:Int)<=(0:Int)/\0<=a/\a<=((List.length i:Nat):Int)/\
(aV true 3 64 .nil [] (List.drop (Int.toNat (0:Int)) (List.take (Int.toNat a) i)) u λb7 e2=>
aV false 3 64 b7 ([]++(List.drop (Int.toNat (0:Int)) (List.take (Int.toNat a) i))) [[pS d,.list 7 .sh j,.list 19 .sh k]] e2 λa8 e3=>
x (a8,(([]++(List.drop (Int.toNat (0:Int)) (List.take (Int.toNat a) i)))++[[pS d,.list 7 .sh j,.list 19 .sh k]])) e3)/\
(aV true 3 64 .nil [] (List.drop (Int.toNat (0:Int)) (List.take (Int.toNat a) i)) u λb8 e4=>
aV false 3 64 b8 ([]++(List.drop (Int.toNat (0:Int)) (List.take (Int.toNat a) i))) [[pS d,.list 7 .sh j,.list 19 .sh k]] e4 λa9 d5=>
x (a9,(([]++(List.drop (Int.toNat (0:Int)) (List.take (Int.toNat a) i)))++[[pS d,.list 7 .sh j,.list 19 .sh k]])) d5))
(λt H=>
nP b λa4 d1=>
∃e8 e,aB H a4 (d1+2) 1=some [.list 3 e8 e]/\
0<=a/\a<=((List.length e:Nat):Int)/\((List.length e:Nat):Int)<=((List.length e:Nat):Int)/\
aV false 3 64 t.1 t.2 (List.drop (Int.toNat a) (List.take (Int.toNat ((List.length e:Nat):Int)) e)) H λb0 d6=>
nP b λa5 d2=>
stM a5 (d2+2) [.list 3 b0 (t.2++(List.drop (Int.toNat a) (List.take (Int.toNat ((List.length e:Nat):Int)) e)))] d6 λC=>
nP b λa6 d3=>
∃e9 o,aB C a6 (d3+4) 1=some [.list 1 e9 o]/\
(0:Int)<=(0:Int)/\0<=a/\a<=((List.length o:Nat):Int)/\
aV false 1 24 .nil [] (List.drop (Int.toNat (0:Int)) (List.take (Int.toNat a) o)) C λb1 d7=>
aV false 1 24 b1 ([]++(List.drop (Int.toNat (0:Int)) (List.take (Int.toNat a) o))) [[.list 3 .sh r]] d7 λb2 D=>
nP b λa7 d4=>
∃f0 f,aB D a7 (d4+4) 1=some [.list 1 f0 f]/\
0<=a/\a<=((List.length f:Nat):Int)/\((List.length f:Nat):Int)<=((List.length f:Nat):Int)/\
aV false 1 24 b2 (([]++(List.drop (Int.toNat (0:Int)) (List.take (Int.toNat a) o)))++[[.list 3 .sh r]]) (List.drop (Int.toNat a) (List.take (Int.toNat ((List.length f:Nat):Int)) f)) D λb3 d8=>
nP b λW c3=>
stM W (c3+4) [.list 1 b3 ((([]++(List.drop (Int.toNat (0:Int)) (List.take (Int.toNat a) o)))++[[.list 3 .sh r]])++(List.drop (Int.toNat a) (List.take (Int.toNat ((List.length f:Nat):Int)) f)))] d8 λE=>
nP b λX c4=>
∃f1 p,aB E X (c4+5) 1=some [.list 1 f1 p]/\
(0:Int)<=(0:Int)/\0<=a/\a<=((List.length p:Nat):Int)/\
aV false 1 8 .nil [] (List.drop (Int.toNat (0:Int)) (List.take (Int.toNat a) p)) E λb4 d9=>
aV false 1 8 b4 ([]++(List.drop (Int.toNat (0:Int)) (List.take (Int.toNat a) p))) [[pI s]] d9 λb5 F=>
nP b λY c5=>
∃f2 g,aB F Y (c5+5) 1=some [.list 1 f2 g]/\
0<=a/\a<=((List.length g:Nat):Int)/\((List.length g:Nat):Int)<=((List.length g:Nat):Int)/\
aV false 1 8 b5 (([]++(List.drop (Int.toNat (0:Int)) (List.take (Int.toNat a) p)))++[[pI s]]) (List.drop (Int.toNat a) (List.take (Int.toNat ((List.length g:Nat):Int)) g)) F λb6 e0=>
nP b λZ c6=>
stM Z (c6+5) [.list 1 b6 ((([]++(List.drop (Int.toNat (0:Int)) (List.take (Int.toNat a) p)))++[[pI s]])++(List.drop (Int.toNat a) (List.take (Int.toNat ((List.length g:Nat):Int)) g)))] e0 λe1=>
K (pI 0) e1)))))
(((List.length r:Nat):Int),0) G)))):aa prog 42 [pA b,.agg [pS d,.list 7 S j,.list 19 T k]] u0 K:=
VC [3] [(12,⟨[(12,.one (.raw (.int .i64))),(13,.one (.raw (.int .i64)))],[]⟩),(18,⟨[(14,.one (.raw (.int .i64)))],[]⟩)] [(20,⟨[(14,.one (.raw (.int .i64)))],[]⟩),(21,⟨[(15,.one (.list 3))],[]⟩)] [] [] [] [] func42 h
theorem wP.c{e n p q s t v M:Int}{f a b g:Bool}{i o r u:ByteArray}{k m L x:Fl}{j l J w:Lq}(h:
bZ (α:=Unit) (λd=>
ab (e != 1)
(ab (e != 2)
(K (.aD [.list 4 .nil [],pB false]) u0)
(ab f
(ab (!g)
(K (.aD [.list 4 .nil [],pB false]) u0)
(ab (!(a == b))
(K (.aD [.list 4 .nil [],pB false]) u0)
(d () u0)))
(ab (!(a == b))
(K (.aD [.list 4 .nil [],pB false]) u0)
(d () u0))))
(ab f
(ab (!g)
(K (.aD [.list 4 .nil [],pB false]) u0)
(ab (!(a == b))
(K (.aD [.list 4 .nil [],pB false]) u0)
(d () u0)))
(ab (!(a == b))
(K (.aD [.list 4 .nil [],pB false]) u0)
(d () u0))))
(λS N=>
aa prog 114 [.agg [pI 1,pS i,pI 0,pS ⟨#[]⟩,pI 0,.list 3 .sh []],.agg [pI n,pS o,pI p],.list 4 x w] N λP y=>
∃B A C,P=(.aD [.list 4 B A,pB C])/\
ab (!C)
(K (.aD [.list 4 .nil [],pB false]) y)
(aa prog 115 [.list 6 k j,.agg [pI q,pS r,pI s],.list 4 B A] y λQ z=>
∃E D F,Q=(.aD [.list 4 E D,pB F])/\
ab (!F)
(K (.aD [.list 4 .nil [],pB false]) z)
(aa prog 115 [.list 6 m l,.agg [pI t,pS u,pI v],.list 4 E D] z λR O=>
∃H G I,R=(.aD [.list 4 H G,pB I])/\
K (.aD [.list 4 H G,pB I]) O)))):aa prog 51 [.agg [pI e,pB f,pS i,.list 6 k j,.list 6 m l,pB a,.list 7 L J],.agg [pI n,pS o,pI p,pI q,pS r,pI s,pI t,pS u,pI v,pB b,pB g,pI M],.list 4 x w] u0 K:=
VC [3,4] [] [(3,⟨[],[]⟩)] [] [] [] [] func51 h
theorem NO.c{a b:Int}(h:
ab (decide (a<1))
(K (.aD [pA none,pI 1]) u0)
(ab (decide (a>1024))
(K (.aD [pA none,pI 1]) u0)
(ab (decide (b<1))
(K (.aD [pA none,pI 1]) u0)
(ab (decide (b>1024))
(K (.aD [pA none,pI 1]) u0)
(bJ u0 156 [pI 0,pB false,pS ⟨#[]⟩,.list 6 .nil [],.list 6 .nil [],pB false,.list 7 .nil [],pV none 0 0,.list 1 .nil [],.list 2 .nr [[.list 1 .sh [],.list 4 .sh []]],.list 1 .nil [],pI 0,.list 2 .nil [],.list 1 .nil []] λi k=>
aa prog 116 [] k λq l=>
∃d,q=(pA d)/\
aa prog 91 [.list 12 .nil []] l λr m=>
∃e,r=(pA e)/\
aa prog 117 [] m λs n=>
∃f,s=(pA f)/\
aa prog 118 [] n λt o=>
∃g,t=(pA g)/\
bJ o 137 [pI a,pI b,pP i 0,pA d,pA e,pA f,pA g] λj p=>
K (.aD [pP j 0,pI 0]) p))))):aa prog 52 [pI a,pI b] u0 K:=
VC [] [] [] [] [] [] [2025007] func52 h
theorem BH.c{a:ByteArray}(h:
K (.agg [pI 3,pS a,pI 0]) u0):aa prog 53 [pS a] u0 K:=
VC [2] [] [] [] [] [] [] func53 h
theorem Au.c{a d:ByteArray}{b e:Int}(h:
K (.list 6 .nr [[pI 1,pS a,pI b,pS d,pI e,.list 3 .sh []]]) u0):aa prog 54 [pS a,.agg [pI b,pS d,pI e]] u0 K:=
VC [3] [] [] [] [] [] [] func54 h
theorem BJ.c{a:ByteArray}{b:Int}(h:
K (.agg [pI 1,pS a,pI b]) u0):aa prog 55 [pS a,pI b] u0 K:=
VC [4] [] [] [] [] [] [] func55 h
theorem BI.c{a:Int}(h:
K (.agg [pI 2,pS ⟨#[]⟩,pI a]) u0):aa prog 56 [pI a] u0 K:=
VC [2] [] [] [] [] [] [] func56 h
theorem Ew.c{a:Option Addr}(h:
K (.fn (.func 120) [] [.bn [pA a] 0]) u0):aa prog 58 [pA a] u0 K:=
VC [] [] [] [] [1] [] [] func58 h
theorem qx.c{l:Fl}{b:Lq}(h:
ak (α:=Int) (λm a d=>
ab (decide (a<((List.length b:Nat):Int)))
(0<=a/\∃(e:List PV),(b)[Int.toNat a]?=some e/\
∃n i,ay e 5 1=some [.list 3 n i]/\
ab (decide (((List.length i:Nat):Int)>20))
(K (pB true) d)
(0<=a/\∃(f:List PV),(b)[Int.toNat a]?=some f/\
∃j,ay f 1 1=some [pS j]/\
ab (decide ((((ByteArray.size j:Nat):Int):Int)>100))
(K (pB true) d)
(0<=a/\∃(g:List PV),(b)[Int.toNat a]?=some g/\
∃k,ay g 3 1=some [pS k]/\
ab (decide ((((ByteArray.size k:Nat):Int):Int)>100))
(K (pB true) d)
(m (IntKind.wrap .i64 (a+1)) d))))
(K (pB false) d))
(0) u0):aa prog 70 [.list 6 l b] u0 K:=
VC [] [(2,⟨[(3,.one (.raw (.int .i64)))],[]⟩)] [] [] [] [] [] func70 h
theorem fj.c{u:Fl}{b:Lq}(h:
ak (α:=(Fl×Lq)×Int) (λw a m=>
ab (decide (a.2<((List.length b:Nat):Int)))
(0<=a.2/\∃(l:List PV),(b)[Int.toNat a.2]?=some l/\
∃n o p A q B r s C t,ay l 0 7=some [pI n,pB o,pS p,.list 6 A q,.list 6 B r,pB s,.list 7 C t]/\
aa prog 127 [.agg [pI n,pB o,pS p,.list 6 .sh q,.list 6 .sh r,pB s,.list 7 .sh t]] m λz x=>
∃d e f D g E i j F k,z=(.agg [pI d,pB e,pS f,.list 6 D g,.list 6 E i,pB j,.list 7 F k])/\
aV false 7 112 a.1.1 a.1.2 [[pI d,pB e,pS f,.list 6 .sh g,.list 6 .sh i,pB j,.list 7 .sh k]] x λv y=>
w ((v,(a.1.2++[[pI d,pB e,pS f,.list 6 .sh g,.list 6 .sh i,pB j,.list 7 .sh k]])),(IntKind.wrap .i64 (a.2+1))) y)
(K (.list 7 a.1.1 a.1.2) m))
((.nil,[]),0) u0):aa prog 71 [.list 7 u b] u0 K:=
VC [] [(3,⟨[(3,.one (.list 7)),(4,.one (.raw (.int .i64)))],[]⟩)] [] [] [] [] [] func71 h
theorem oE.c{b:Fl}{a:Lq}(h:
aV false 19 224 .nil [] a u0 λd e=>
K (.list 19 d ([]++a)) e):aa prog 72 [.list 19 b a] u0 K:=
VC [] [] [] [] [] [] [] func72 h
theorem BB.c{l:ByteArray}{m R:Fl}{e f:Lq}(h:
aa prog 128 [.agg [pS l,.list 7 .sh e,.list 19 .sh f]] u0 λU g=>
∃t k,U=(.aD [pI t,pI k])/\
ab (k != 0)
(K (.aD [pI t,pI k,.list 1 .nil []]) g)
((0:Int)<=0/\∃(o:List PV),(e)[Int.toNat 0]?=some o/\
∃u,ay o 0 1=some [pI u]/\
ab (u != 1)
(K (.aD [pI 0,pI 9,.list 1 .nil []]) g)
(aa prog 129 [.list 1 .nil []] g λV S=>
∃v,V=(pA v)/\
bJ S 216 [pA v,.list 1 .nil []] λb T=>
aa prog 130 [pP b 0,.list 7 m e,pI 0] T λW q=>
∃d w,W=(.aD [pI d,pB w])/\
ab (!w)
(K (.aD [pI d,pI 6,.list 1 .nil []]) q)
(ak (α:=Int) (λn a i=>
ab (decide (a<((List.length f:Nat):Int)))
(0<=a/\∃(p:List PV),(f)[Int.toNat a]?=some p/\
∃a0 x y z A B C D E F G H I J a1 a2 a3 a4 a5,ay p 0 19=some [pS a0,pS x,pI y,pS z,pI A,pI B,pS C,pI D,pS E,pI F,pS G,pI H,pS I,pI J,pI a1,pS a2,pI a3,pS a4,pI a5]/\
aa prog 131 [pP b 0,.agg [pS x,pI y,pS z,pI A]] i λX j=>
∃L,X=(pB L)/\
ab L
(K (.aD [pI (IntKind.wrap .i64 (d+a)),pI 6,.list 1 .nil []]) j)
(ab (B != 0)
(aa prog 131 [pP b 0,.agg [pS C,pI D,pS E,pI F]] j λY r=>
∃M,Y=(pB M)/\
ab M
(K (.aD [pI (IntKind.wrap .i64 (d+a)),pI 6,.list 1 .nil []]) r)
(aa prog 131 [pP b 0,.agg [pS G,pI H,pS I,pI J]] r λZ s=>
∃N,Z=(pB N)/\
ab N
(K (.aD [pI (IntKind.wrap .i64 (d+a)),pI 6,.list 1 .nil []]) s)
(n (IntKind.wrap .i64 (a+1)) s)))
(n (IntKind.wrap .i64 (a+1)) j)))
(∃O Q P,aB i b 1 1=some [pV O Q P]/\
K (.aD [pI (-1),pI 0,pV O Q P]) i))
(0) q)))):aa prog 73 [.agg [pS l,.list 7 m e,.list 19 R f]] u0 K:=
VC [1,10] [(11,⟨[(42,.one (.raw (.int .i64)))],[]⟩)] [] [] [] [] [78] func73 h
theorem RA.c{i x:ByteArray}{z B C:Fl}{y A a:Lq}(h:
bJ u0 9 [pS i] λE k=>
0<=(IntKind.wrap .i64 (((List.length a:Nat):Int)-1))/\∃(j:List PV),(a)[Int.toNat (IntKind.wrap .i64 (((List.length a:Nat):Int)-1))]?=some j/\
∃m,ay j 0 1=some [pA m]/\
nP m λD G=>
∃o n,aB k D (G+9) 1=some [.list 2 o n]/\
aa prog 134 [.list 2 o n] k λP I=>
∃p,P=(pA p)/\
bJ I 48 [.list 2 .nil []] λd J=>
aa prog 135 [pA p] J λQ L=>
∃q r s,Q=(.fn q r s)/\
bk prog (.fn q r s) (λR w e=>
∃S b U T,R=[.agg [.list 1 S b,.list 4 U T]]/\
∃t f,aB e d 0 1=some [.list 2 t f]/\
∃g,aB e E 0 1=some [pS g]/\
aV true 1 8 .nil [] b e λV M=>
aV false 2 40 t f [[pS g,.list 1 .sh ([]++b)]] M λF N=>
stM d 0 [.list 2 F (f++[[pS g,.list 1 .sh ([]++b)]])] N λO=>
w none O)
(λH l=>
PK H
(∃v u,aB l d 0 1=some [.list 2 v u]/\
K (.list 2 v u) l)
(False)
[])
L):aa prog 76 [pS i,.agg [pS x,.list 7 z y,.list 19 B A,.list 1 C a]] u0 K:=
VC [3,7] [] [] [(22,[193])] [] [] [] func76 h
theorem uE.c{j:ByteArray}{g M:Fl}{f a:Lq}(h:
aa prog 136 [pS j] u0 λO l=>
∃p,O=(pB p)/\
ab (!p)
(K (.aD [pI (-1),pI 2]) l)
(aa prog 80 [.list 7 g f] l λP d=>
∃e,P=(pI e)/\
ab (decide (e<1))
(K (.aD [pI (-1),pI 7]) d)
(ab (decide (e>16))
(K (.aD [pI (-1),pI 7]) d)
(ab (decide (((List.length a:Nat):Int)<1))
(K (.aD [pI (-1),pI 7]) d)
(ab (decide (((List.length a:Nat):Int)>16))
(K (.aD [pI (-1),pI 7]) d)
(aa prog 137 [.list 7 g f,pI 0,pI 0] d λQ m=>
∃q i,Q=(.aD [pI q,pI i])/\
ab (i != 0)
(K (.aD [pI q,pI i]) m)
(ak (α:=Int) (λN b n=>
ab (decide (b<((List.length a:Nat):Int)))
(0<=b/\∃(k:List PV),(a)[Int.toNat b]?=some k/\
∃r s t u v w x y z A B C D E F G H I J,ay k 0 19=some [pS r,pS s,pI t,pS u,pI v,pI w,pS x,pI y,pS z,pI A,pS B,pI C,pS D,pI E,pI F,pS G,pI H,pS I,pI J]/\
aa prog 138 [.agg [pS r,pS s,pI t,pS u,pI v,pI w,pS x,pI y,pS z,pI A,pS B,pI C,pS D,pI E,pI F,pS G,pI H,pS I,pI J]] n λR o=>
∃L,R=(pB L)/\
ab (!L)
(K (.aD [pI (IntKind.wrap .i64 (e+b)),pI 9]) o)
(N (IntKind.wrap .i64 (b+1)) o))
(K (.aD [pI (-1),pI 0]) n))
(0) m))))))):aa prog 78 [.agg [pS j,.list 7 g f,.list 19 M a]] u0 K:=
VC [1] [(10,⟨[(7,.one (.raw (.int .i64)))],[]⟩)] [] [] [] [] [] func78 h
theorem mD.c{L j:Fl}{b i:Lq}{g:Int}(h:
ak (α:=Int×(Fl×Lq)×Int) (λM a e=>
ab (decide (a.2.2<((List.length b:Nat):Int)))
(bZ (α:=(Fl×Lq)) (λd=>
0<=a.2.2/\∃(k:List PV),(b)[Int.toNat a.2.2]?=some k/\
∃r,ay k 0 1=some [pI r]/\
ab (r == 3)
(0<=a.2.2/\∃(l:List PV),(b)[Int.toNat a.2.2]?=some l/\
∃t s,ay l 6 1=some [.list 7 t s]/\
aa prog 79 [.list 7 t s,pI (IntKind.wrap .i64 (a.1+1)),.list 1 a.2.1.1 a.2.1.2] e λP q=>
∃T S u v,P=(.aD [.list 1 T S,pI u,pB v])/\
ab (!v)
(K (.aD [.list 1 .nil [],pI u,pB false]) q)
(d (a.2.1.1,a.2.1.2) q))
(0<=a.2.2/\∃(m:List PV),(b)[Int.toNat a.2.2]?=some m/\
∃w x y U z V A B W C,ay m 0 7=some [pI w,pB x,pS y,.list 6 U z,.list 6 V A,pB B,.list 7 W C]/\
aa prog 139 [.agg [pI w,pB x,pS y,.list 6 .sh z,.list 6 .sh A,pB B,.list 7 .sh C],.list 1 a.2.1.1 a.2.1.2] e λQ f=>
∃E D F,Q=(.aD [.list 1 E D,pB F])/\
ab (!F)
(K (.aD [.list 1 .nil [],pI a.1,pB false]) f)
(0<=a.2.2/\∃(n:List PV),(b)[Int.toNat a.2.2]?=some n/\
∃G,ay n 0 1=some [pI G]/\
ab (G == 1)
(d (E,D) f)
(d (a.2.1.1,a.2.1.2) f))))
(λp N=>
0<=a.2.2/\∃(o:List PV),(b)[Int.toNat a.2.2]?=some o/\
∃I H,ay o 6 1=some [.list 7 I H]/\
aa prog 80 [.list 7 I H] N λR O=>
∃J,R=(pI J)/\
M ((IntKind.wrap .i64 (a.1+(IntKind.wrap .i64 (1+J)))),(p.1,p.2),(IntKind.wrap .i64 (a.2.2+1))) O))
(K (.aD [.list 1 a.2.1.1 a.2.1.2,pI (-1),pB true]) e))
(g,(j,i),0) u0):aa prog 79 [.list 7 L b,pI g,.list 1 j i] u0 K:=
VC [] [(2,⟨[(1,.one (.raw (.int .i64))),(2,.one (.list 1)),(9,.one (.raw (.int .i64)))],[]⟩)] [(13,⟨[(2,.one (.list 1))],[]⟩)] [] [] [] [] func79 h
theorem oe.c{j:Fl}{b:Lq}(h:
ak (α:=Int×Int) (λk a e=>
ab (decide (a.2<((List.length b:Nat):Int)))
(0<=a.2/\∃(d:List PV),(b)[Int.toNat a.2]?=some d/\
∃g f,ay d 6 1=some [.list 7 g f]/\
aa prog 80 [.list 7 g f] e λm l=>
∃i,m=(pI i)/\
k ((IntKind.wrap .i64 (a.1+(IntKind.wrap .i64 (1+i)))),(IntKind.wrap .i64 (a.2+1))) l)
(K (pI a.1) e))
(0,0) u0):aa prog 80 [.list 7 j b] u0 K:=
VC [] [(3,⟨[(3,.one (.raw (.int .i64))),(4,.one (.raw (.int .i64)))],[]⟩)] [] [] [] [] [] func80 h
theorem wR.c{a g:ByteArray}{f i:Int}{d:Fl}{b:Lq}(h:
ab (aJ a ⟨#[]⟩)
(K (pB true) u0)
(aa prog 140 [.list 1 d b,pS a] u0 λk j=>
∃e,k=(pB e)/\
K (pB e) j)):aa prog 81 [.agg [pS a,pI f,pS g,pI i],.list 1 d b] u0 K:=
VC [2] [] [] [] [] [] [] func81 h
theorem An.c{m:Option Addr}{B:Fl}{j:Lq}(h:
ak (α:=Int) (λM d b=>
ab (decide (d>=0))
(0<=d/\∃(s:List PV),(j)[Int.toNat d]?=some s/\
∃i,ay s 0 1=some [pA i]/\
nP i λC O=>
∃a4 v a5,aB b C (O+7) 1=some [pV a4 v a5]/\
ab (decide ((((v:Nat):Int):Int)>0))
(K (.aD []) b)
(nP i λD P=>
∃w,aB b D (P+11) 1=some [pI w]/\
ab (decide (w>0))
(K (.aD []) b)
(nP m λE Q=>
∃x,aB b E (Q+2) 1=some [pA x]/\
bZ (α:=Option Addr) (λq=>
ab (decide (d>0))
(0<=(IntKind.wrap .i64 (d-1))/\∃(t:List PV),(j)[Int.toNat (IntKind.wrap .i64 (d-1))]?=some t/\
∃y,ay t 0 1=some [pA y]/\
q y b)
(q x b))
(λk u=>
bZ (α:=Unit) (λr=>
nP k λF R=>
∃z n a6,aB u F (R+7) 1=some [pV z n a6]/\
ak (α:=Int) (λN a e=>
ab (decide (a<((n:Nat):Int)))
(cK z λG S=>
0<=a/\a<((n:Nat):Int)/\
∃A,aB e G (S+Int.toNat a*1) 1=some [pA A]/\
Mu (pA A) (pA i) e λL=>
ab L
(nP k λH T=>
∃o a7 f,aB e H (T+7) 1=some [pV o a7 f]/\
ju o/\(0:Int)<=(0:Int)/\0<=a/\a<=((f:Nat):Int)/\((f:Nat):Int)<=((f:Nat):Int)/\
nP k λI U=>
∃p l g,aB e I (U+7) 1=some [pV p l g]/\
ju p/\0<=(IntKind.wrap .i64 (a+1))/\(IntKind.wrap .i64 (a+1))<=((l:Nat):Int)/\((l:Nat):Int)<=((g:Nat):Int)/\((g:Nat):Int)<=((g:Nat):Int)/\
lZ 1 8 131 (Br o (Int.toNat (0:Int)) (Int.toNat ((f:Nat):Int)) 1) (Int.toNat a-Int.toNat (0:Int)) (Int.toNat ((f:Nat):Int)-Int.toNat (0:Int)) (pV (Br p (Int.toNat (IntKind.wrap .i64 (a+1))) (Int.toNat ((g:Nat):Int)) 1) (Int.toNat ((l:Nat):Int)-Int.toNat (IntKind.wrap .i64 (a+1))) (Int.toNat ((g:Nat):Int)-Int.toNat (IntKind.wrap .i64 (a+1)))) e λW Y X a0=>
nP k λJ V=>
stM J (V+7) [pV W Y X] a0 λa1=>
r () a1)
(N (IntKind.wrap .i64 (a+1)) e))
(r () e))
(0) u)
(λa8 Z=>
aa prog 106 [pA m,pA i] Z λa3 a2=>
 a3=(.aD [])/\
M (IntKind.wrap .i64 (d-1)) a2)))))
(K (.aD []) b))
(IntKind.wrap .i64 (((List.length j:Nat):Int)-1)) u0):aa prog 85 [pA m,.list 1 B j] u0 K:=
VC [] [(1,⟨[(4,.one (.raw (.int .i64)))],[]⟩),(9,⟨[(49,.one (.raw (.int .i64)))],[]⟩)] [(8,⟨[(6,.one (.raw .ptr))],[]⟩),(14,⟨[],[]⟩)] [] [] [] [22,23,46,47,60,61,63,66,67,70,71,73] func85 h
theorem rr.c{d:Option Addr}{e:ByteArray}(h:
ak (α:=Int) (λm a b=>
nP d λk n=>
∃p g,aB b k (n+2) 1=some [.list 3 p g]/\
ab (decide (a<((List.length g:Nat):Int)))
(nP d λl o=>
∃q i,aB b l (o+2) 1=some [.list 3 q i]/\
0<=a/\∃(f:List PV),(i)[Int.toNat a]?=some f/\
∃j,ay f 0 1=some [pS j]/\
ab (aJ j e)
(K (.aD [pI a,pB true]) b)
(m (IntKind.wrap .i64 (a+1)) b))
(K (.aD [pI 0,pB false]) b))
(0) u0):aa prog 86 [pA d,pS e] u0 K:=
VC [] [(2,⟨[(6,.one (.raw (.int .i64)))],[]⟩)] [] [] [] [] [] func86 h
theorem mX.c{a:Option Addr}(h:
K (.fn (.func 143) [] [.bn [pA a] 0]) u0):aa prog 87 [pA a] u0 K:=
VC [] [] [] [] [1] [] [] func87 h
theorem Es.c{e:Option Addr}{a d f i j l o:Int}{b g k:ByteArray}{m n:Bool}(h:
nP e λD H=>
∃v,aB u0 D (H+4) 1=some [pA v]/\
aa prog 93 [pA v,.agg [pI a,pS b,pI d,pI f,pS g,pI i,pI j,pS k,pI l,pB m,pB n,pI o]] u0 λQ r=>
∃W,Q=(pB W)/\
nP e λE I=>
∃w,aB r E (I+5) 1=some [pA w]/\
aa prog 145 [pA w,.agg [pI a,pS b,pI d]] r λR s=>
∃x y,R=(.aD [pA x,pB y])/\
bZ (α:=Option Addr) (λq=>
ab (!y)
(aa prog 91 [.list 12 .nil []] s λS t=>
∃p,S=(pA p)/\
nP e λF J=>
∃z,aB t F (J+5) 1=some [pA z]/\
aa prog 146 [pA z,.agg [pI a,pS b,pI d],pA p] t λT O=>
∃X,T=(pB X)/\
q p O)
(q x s))
(λM N=>
aa prog 93 [pA M,.agg [pI a,pS b,pI d,pI f,pS g,pI i,pI j,pS k,pI l,pB m,pB n,pI o]] N λU u=>
∃Y,U=(pB Y)/\
nP e λG L=>
∃A,aB u G (L+3) 1=some [pA A]/\
aa prog 147 [pA A,.agg [pI a,pS b,pI d,pI f,pS g,pI i,pI j,pS k,pI l,pB m,pB n,pI o]] u λV P=>
∃C B Z,V=(.aD [.list 1 C B,pI Z])/\
K (.list 1 C B) P)):aa prog 88 [pA e,.agg [pI a,pS b,pI d,pI f,pS g,pI i,pI j,pS k,pI l,pB m,pB n,pI o]] u0 K:=
VC [3] [] [(6,⟨[(5,.one (.raw .ptr))],[]⟩)] [] [] [] [] func88 h
theorem jh.c{a:Option Addr}(h:
K (.fn (.func 148) [] [.bn [pA a] 0]) u0):aa prog 89 [pA a] u0 K:=
VC [] [] [] [] [1] [] [] func89 h
theorem Lx.c{a e b g i k s:Int}{d f j:ByteArray}{q r:Bool}(h:
ab (a == 1)
(ab (b != 1)
(aa prog 150 [.agg [pI a,pS d,pI e]] u0 λu l=>
∃n,u=(pB n)/\
ab n
(aa prog 150 [.agg [pI b,pS f,pI g]] l λv m=>
∃o,v=(pB o)/\
ab o
(aa prog 150 [.agg [pI i,pS j,pI k]] m λw t=>
∃p,w=(pB p)/\
K (pB p) t)
(K (pB false) m))
(K (pB false) l))
(K (pB false) u0))
(K (pB false) u0)):aa prog 90 [.agg [pI a,pS d,pI e,pI b,pS f,pI g,pI i,pS j,pI k,pB q,pB r,pI s]] u0 K:=
VC [1] [] [] [] [] [] [] func90 h
theorem Et.c{a:Option Addr}{b:Int}(h:
nP a λs t=>
∃d,aB u0 s (t+4) 1=some [pA d]/\
aa prog 151 [pA d,.agg [pI 0,pS ⟨#[]⟩,pI 0,pI 0,pS ⟨#[]⟩,pI 0,pI 0,pS ⟨#[]⟩,pI 0,pB false,pB false,pI b]] u0 λv u=>
∃e f g i j k l m n o p q r,v=(.aD [.agg [pI e,pS f,pI g,pI i,pS j,pI k,pI l,pS m,pI n,pB o,pB p,pI q],pB r])/\
K (.aD [.agg [pI e,pS f,pI g,pI i,pS j,pI k,pI l,pS m,pI n,pB o,pB p,pI q],pB r]) u):aa prog 92 [pA a,pI b] u0 K:=
VC [4,6] [] [] [] [] [] [] func92 h
theorem BG.c{a:Option Addr}{b e i k l n f:Int}{d j m:ByteArray}{o p:Bool}(h:
nP a λD H=>
∃v,aB u0 D (H+4) 1=some [pA v]/\
aa prog 154 [pA v,.agg [pI b,pS d,pI e,pI i,pS j,pI k,pI l,pS m,pI n,pB o,pB p,pI f]] u0 λP s=>
∃V,P=(pB V)/\
nP a λE I=>
∃w,aB s E (I+5) 1=some [pA w]/\
aa prog 145 [pA w,.agg [pI b,pS d,pI e]] s λQ t=>
∃r x,Q=(.aD [pA r,pB x])/\
bZ (α:=Unit) (λg=>
ab x
(aa prog 154 [pA r,.agg [pI b,pS d,pI e,pI i,pS j,pI k,pI l,pS m,pI n,pB o,pB p,pI f]] t λR M=>
∃W,R=(pB W)/\
aa prog 155 [pA r] M λS q=>
∃y,S=(pI y)/\
ab (y == 0)
(nP a λF J=>
∃z,aB q F (J+5) 1=some [pA z]/\
aa prog 156 [pA z,.agg [pI b,pS d,pI e]] q λT N=>
∃X Y,T=(.aD [pA X,pB Y])/\
g () N)
(g () q))
(g () t))
(λa0 u=>
nP a λG L=>
∃A,aB u G (L+3) 1=some [pA A]/\
aa prog 157 [pA A,pI f] u λU O=>
∃C B Z,U=(.aD [.list 1 C B,pI Z])/\
K (.list 1 C B) O)):aa prog 96 [pA a,.agg [pI b,pS d,pI e,pI i,pS j,pI k,pI l,pS m,pI n,pB o,pB p,pI f]] u0 K:=
VC [3] [] [(7,⟨[],[]⟩)] [] [] [] [] func96 h
theorem BF.c{e k f:Option Addr}{m:Fl}{l:Lq}{n:Bool}(h:
nP k λJ U=>
∃v g a9,aB u0 J (U+7) 1=some [pV v g a9]/\
ak (α:=Int) (λT b d=>
ab (decide (b<((g:Nat):Int)))
(cK v λL V=>
0<=b/\b<((g:Nat):Int)/\
∃a,aB d L (V+Int.toNat b*1) 1=some [pA a]/\
nP a λM W=>
∃x w,aB d M (W+9) 1=some [.list 2 x w]/\
nP a λN X=>
stM N (X+12) [.list 2 x w] d λp=>
nP a λO Y=>
∃z y,aB p O (Y+10) 1=some [.list 1 z y]/\
nP a λP Z=>
stM P (Z+13) [.list 1 z y] p λq=>
bZ (α:=Bool) (λi=>
ab n
(i true q)
(aa prog 160 [pA a,pA f] q λa6 a3=>
∃A,a6=(pB A)/\
i A a3))
(λo r=>
bZ (α:=Unit) (λj=>
ab o
(aa prog 105 [pA e,pA a,.list 2 m l] r λa7 t=>
∃C B E D F,a7=(.aD [.list 2 C B,.list 1 E D,pB F])/\
ab (!F)
(K (pB false) t)
(nP a λQ a0=>
stM Q (a0+12) [.list 2 C B] t λa4=>
nP a λR a1=>
stM R (a1+13) [.list 1 E D] a4 λa5=>
j () a5))
(j () r))
(λb0 s=>
nP a λS a2=>
∃H G,aB s S (a2+12) 1=some [.list 2 H G]/\
aa prog 98 [pA e,pA a,.list 2 H G,pB o,pA f] s λa8 u=>
∃I,a8=(pB I)/\
ab (!I)
(K (pB false) u)
(T (IntKind.wrap .i64 (b+1)) u))))
(K (pB true) d))
(0) u0):aa prog 98 [pA e,pA k,.list 2 m l,pB n,pA f] u0 K:=
VC [] [(2,⟨[(22,.one (.raw (.int .i64)))],[]⟩)] [(7,⟨[(13,.one (.raw .bool))],[]⟩),(13,⟨[],[]⟩)] [] [] [] [19,20] func98 h
theorem Fv.c{f:Option Addr}(h:
nP f λn w=>
∃m e J,aB u0 n (w+7) 1=some [pV m e J]/\
ak (α:=Int) (λv b d=>
ab (decide (b<((e:Nat):Int)))
(cK m λo x=>
0<=b/\b<((e:Nat):Int)/\
∃a,aB d o (x+Int.toNat b*1) 1=some [pA a]/\
nP a λp y=>
∃j i,aB d p (y+12) 1=some [.list 2 j i]/\
nP a λq z=>
stM q (z+9) [.list 2 j i] d λg=>
nP a λr A=>
∃l k,aB g r (A+13) 1=some [.list 1 l k]/\
nP a λs B=>
stM s (B+10) [.list 1 l k] g λE=>
nP a λt C=>
stM t (C+12) [.list 2 .nil []] E λF=>
nP a λu D=>
stM u (D+13) [.list 1 .nil []] F λG=>
aa prog 99 [pA a] G λI H=>
 I=(.aD [])/\
v (IntKind.wrap .i64 (b+1)) H)
(K (.aD []) d))
(0) u0):aa prog 99 [pA f] u0 K:=
VC [] [(1,⟨[(9,.one (.raw (.int .i64)))],[]⟩)] [] [] [] [] [6,7] func99 h
theorem uz.c{a e f i j l s:Int}{d g k:ByteArray}{q r:Bool}(h:
aa prog 161 [.agg [pI a,pS d,pI e]] u0 λu b=>
∃p,u=(pB p)/\
ab p
(ab (a == 1)
(aa prog 162 [.agg [pI f,pS g,pI i]] b λv m=>
∃n,v=(pB n)/\
ab n
(aa prog 161 [.agg [pI j,pS k,pI l]] m λw t=>
∃o,w=(pB o)/\
K (pB o) t)
(K (pB false) m))
(K (pB false) b))
(K (pB false) b)):aa prog 100 [.agg [pI a,pS d,pI e,pI f,pS g,pI i,pI j,pS k,pI l,pB q,pB r,pI s]] u0 K:=
VC [1] [] [] [] [] [] [] func100 h
theorem oh.c{b:Fl}{a:Lq}(h:
aV false 12 112 .nil [] a u0 λd e=>
K (.list 12 d ([]++a)) e):aa prog 101 [.list 12 b a] u0 K:=
VC [] [] [] [] [] [] [] func101 h
theorem qv.c{b:Option Addr}(h:
ak (α:=(Fl×Lq)×(Fl×Lq)×Int×Bool×Int) (λy a d=>
nP b λr z=>
∃M k,aB d r (z+2) 1=some [.list 3 M k]/\
ab (decide (a.2.2.2.2<((List.length k:Nat):Int)))
(nP b λs A=>
∃N l,aB d s (A+2) 1=some [.list 3 N l]/\
0<=a.2.2.2.2/\∃(i:List PV),(l)[Int.toNat a.2.2.2.2]?=some i/\
∃m O n P o,ay i 0 3=some [pS m,.list 7 O n,.list 19 P o]/\
aa prog 110 [pA b,.agg [pS m,.list 7 .sh n,.list 19 .sh o]] d λL j=>
∃Q e f p,L=(.aD [.list 3 Q e,pI f,pB p])/\
bZ (α:=Bool) (λg=>
ab a.2.2.2.1
(g true j)
(g (!p) j))
(λE F=>
aV false 1 24 a.1.1 a.1.2 [[.list 3 .sh e]] F λw G=>
aV false 1 8 a.2.1.1 a.2.1.2 [[pI f]] G λx H=>
y ((w,(a.1.2++[[.list 3 .sh e]])),(x,(a.2.1.2++[[pI f]])),(IntKind.wrap .i64 (a.2.2.1+((List.length e:Nat):Int))),E,(IntKind.wrap .i64 (a.2.2.2.2+1))) H))
(ab a.2.2.2.1
(K (pI 25) d)
(nP b λt B=>
∃q,aB d t (B+1) 1=some [pI q]/\
ab (decide (a.2.2.1>q))
(K (pI 26) d)
(nP b λu C=>
stM u (C+4) [.list 1 a.1.1 a.1.2] d λI=>
nP b λv D=>
stM v (D+5) [.list 1 a.2.1.1 a.2.1.2] I λJ=>
K (pI 0) J))))
((.nil,[]),(.nil,[]),0,false,0) u0):aa prog 102 [pA b] u0 K:=
VC [] [(6,⟨[(3,.one (.list 1)),(4,.one (.list 1)),(5,.one (.raw (.int .i64))),(6,.one (.raw .bool)),(7,.one (.raw (.int .i64)))],[]⟩)] [(10,⟨[(6,.one (.raw .bool))],[]⟩)] [] [] [] [] func102 h
theorem NN.c{f:Option Addr}{g:Int}{i m:Bool}{j:ByteArray}{y z A:Fl}{k l n:Lq}(h:
nP f λB F=>
∃p d J,aB u0 B (F+7) 1=some [pV p d J]/\
ak (α:=Int) (λE a b=>
ab (decide (a<((d:Nat):Int)))
(cK p λC G=>
0<=a/\a<((d:Nat):Int)/\
∃e,aB b C (G+Int.toNat a*1) 1=some [pA e]/\
nP e λD H=>
∃q r s L t M u v N w,aB b D H 7=some [pI q,pB r,pS s,.list 6 L t,.list 6 M u,pB v,.list 7 N w]/\
aa prog 163 [.agg [pI q,pB r,pS s,.list 6 .sh t,.list 6 .sh u,pB v,.list 7 .sh w],.agg [pI g,pB i,pS j,.list 6 .sh k,.list 6 .sh l,pB m,.list 7 .sh n]] b λI o=>
∃x,I=(pB x)/\
ab x
(K (pA e) o)
(E (IntKind.wrap .i64 (a+1)) o))
(K (pA none) b))
(0) u0):aa prog 103 [pA f,.agg [pI g,pB i,pS j,.list 6 y k,.list 6 z l,pB m,.list 7 A n]] u0 K:=
VC [3] [(2,⟨[(12,.one (.raw (.int .i64)))],[]⟩)] [] [] [] [] [9,10] func103 h
theorem BE.c{R:Option Addr}{x:Int}{y C:Bool}{z:ByteArray}{d3 d4 d5:Fl}{A B D:Lq}(h:
bJ u0 39 [pA R] λd8 i0=>
aa prog 164 [.agg [pI x,pB y,pS z,.list 6 .sh A,.list 6 .sh B,pB C,.list 7 .sh D]] i0 λk5 i1=>
∃c3 c4 c5 c7 c6 c9 c8 d0 d2 d1,k5=(.agg [pI c3,pB c4,pS c5,.list 6 c7 c6,.list 6 c9 c8,pB d0,.list 7 d2 d1])/\
bJ i1 156 [pI c3,pB c4,pS c5,.list 6 c7 c6,.list 6 c9 c8,pB d0,.list 7 d2 d1,pV none 0 0,.list 1 .nil [],.list 2 .nil [],.list 1 .nil [],pI 0,.list 2 .nil [],.list 1 .nil []] λd7 i9=>
bJ i9 131 [pA none] λb j6=>
stM b 0 [pP d7 0] j6 λk1=>
aa prog 165 [.list 7 .nr [[pI x,pB y,pS z,.list 6 .sh A,.list 6 .sh B,pB C,.list 7 .sh D]]] k1 λk6 k2=>
∃a2 a3 a4,k6=(.fn a2 a3 a4)/\
bk prog (.fn a2 a3 a4) (λl3 d a=>
∃l4 e f g l5 i l6 j k l7 l,l3=[pI l4,.agg [pI e,pB f,pS g,.list 6 l5 i,.list 6 l6 j,pB k,.list 7 l7 l]]/\
ab (e == 3)
(∃a7,aB a b 0 1=some [pA a7]/\
nP a7 λd6 g4=>
∃G o,aB a d6 (g4+8) 1=some [.list 1 G o]/\
(∃a5,aB a b 0 1=some [pA a5]/\
((aV false 1 8 G o [[pI (-1)]] a λf3 k3=>
nP a5 λd9 g5=>
(stM d9 (g5+8) [.list 1 f3 (o++[[pI (-1)]])] k3 λk4=>
d none k4)/\
True)/\
True)/\
True)/\
((aV false 1 8 G o [[pI (-1)]] a λf4 W=>
∃a6,aB W b 0 1=some [pA a6]/\
nP a6 λe7 h3=>
(stM e7 (h3+8) [.list 1 f4 (o++[[pI (-1)]])] W λi2=>
d none i2)/\
True)/\
True)/\
True)
(∃c1,aB a d8 0 1=some [pA c1]/\
nP c1 λe8 h4=>
∃m,aB a e8 (h4+3) 1=some [pA m]/\
(∃w,aB a b 0 1=some [pA w]/\
(∃b4,aB a b 0 1=some [pA b4]/\
nP b4 λS U=>
(∃c0 H,aB a S (U+8) 1=some [.list 1 c0 H]/\
(aa prog 166 [pA m,.agg [pI e,pB f,pS g,.list 6 .sh i,.list 6 .sh j,pB k,.list 7 .sh l]] a λk7 i3=>
∃O,k7=(pI O)/\
((aV false 1 8 c0 H [[pI O]] i3 λf5 i4=>
nP w λe9 h5=>
(stM e9 (h5+8) [.list 1 f5 (H++[[pI O]])] i4 λi5=>
d none i5)/\
True)/\
True)/\
True)/\
True)/\
(aa prog 166 [pA m,.agg [pI e,pB f,pS g,.list 6 .sh i,.list 6 .sh j,pB k,.list 7 .sh l]] a λk8 X=>
∃P,k8=(pI P)/\
∃b8 I,aB X S (U+8) 1=some [.list 1 b8 I]/\
((aV false 1 8 b8 I [[pI P]] X λf6 i6=>
nP w λf0 h6=>
(stM f0 (h6+8) [.list 1 f6 (I++[[pI P]])] i6 λi7=>
d none i7)/\
True)/\
True)/\
True)/\
True)/\
(aa prog 166 [pA m,.agg [pI e,pB f,pS g,.list 6 .sh i,.list 6 .sh j,pB k,.list 7 .sh l]] a λk9 E=>
∃Q,k9=(pI Q)/\
∃b5,aB E b 0 1=some [pA b5]/\
nP b5 λf1 h7=>
∃b9 J,aB E f1 (h7+8) 1=some [.list 1 b9 J]/\
((aV false 1 8 b9 J [[pI Q]] E λf7 i8=>
nP w λf2 h8=>
(stM f2 (h8+8) [.list 1 f7 (J++[[pI Q]])] i8 λj0=>
d none j0)/\
True)/\
True)/\
True)/\
True)/\
(∃b6,aB a b 0 1=some [pA b6]/\
nP b6 λT V=>
(∃L p,aB a T (V+8) 1=some [.list 1 L p]/\
(aa prog 166 [pA m,.agg [pI e,pB f,pS g,.list 6 .sh i,.list 6 .sh j,pB k,.list 7 .sh l]] a λl0 F=>
∃s,l0=(pI s)/\
(∃a8,aB F b 0 1=some [pA a8]/\
((aV false 1 8 L p [[pI s]] F λf8 j1=>
nP a8 λe0 g6=>
(stM e0 (g6+8) [.list 1 f8 (p++[[pI s]])] j1 λj2=>
d none j2)/\
True)/\
True)/\
True)/\
((aV false 1 8 L p [[pI s]] F λf9 Y=>
∃a9,aB Y b 0 1=some [pA a9]/\
nP a9 λe1 g7=>
(stM e1 (g7+8) [.list 1 f9 (p++[[pI s]])] Y λj3=>
d none j3)/\
True)/\
True)/\
True)/\
True)/\
(aa prog 166 [pA m,.agg [pI e,pB f,pS g,.list 6 .sh i,.list 6 .sh j,pB k,.list 7 .sh l]] a λl1 v=>
∃t,l1=(pI t)/\
∃M q,aB v T (V+8) 1=some [.list 1 M q]/\
(∃b0,aB v b 0 1=some [pA b0]/\
((aV false 1 8 M q [[pI t]] v λg0 j4=>
nP b0 λe2 g8=>
(stM e2 (g8+8) [.list 1 g0 (q++[[pI t]])] j4 λj5=>
d none j5)/\
True)/\
True)/\
True)/\
((aV false 1 8 M q [[pI t]] v λg1 Z=>
∃b1,aB Z b 0 1=some [pA b1]/\
nP b1 λe3 g9=>
(stM e3 (g9+8) [.list 1 g1 (q++[[pI t]])] Z λj7=>
d none j7)/\
True)/\
True)/\
True)/\
True)/\
(aa prog 166 [pA m,.agg [pI e,pB f,pS g,.list 6 .sh i,.list 6 .sh j,pB k,.list 7 .sh l]] a λl2 n=>
∃u,l2=(pI u)/\
∃b7,aB n b 0 1=some [pA b7]/\
nP b7 λe4 h0=>
∃N r,aB n e4 (h0+8) 1=some [.list 1 N r]/\
(∃b2,aB n b 0 1=some [pA b2]/\
((aV false 1 8 N r [[pI u]] n λg2 j8=>
nP b2 λe5 h1=>
(stM e5 (h1+8) [.list 1 g2 (r++[[pI u]])] j8 λj9=>
d none j9)/\
True)/\
True)/\
True)/\
((aV false 1 8 N r [[pI u]] n λg3 a0=>
∃b3,aB a0 b 0 1=some [pA b3]/\
nP b3 λe6 h2=>
(stM e6 (h2+8) [.list 1 g3 (r++[[pI u]])] a0 λk0=>
d none k0)/\
True)/\
True)/\
True)/\
True))
(λh9 a1=>
PK h9
(∃c2,aB a1 b 0 1=some [pA c2]/\
K (pA c2) a1)
(False)
[])
k2):aa prog 104 [pA R,.agg [pI x,pB y,pS z,.list 6 d3 A,.list 6 d4 B,pB C,.list 7 d5 D]] u0 K:=
VC [3,7,1000005,1000006] [] [] [(15,[3,28])] [] [] [2011007] func104 h
theorem yM.c{o g:Option Addr}{i7:Fl}{E:Lq}(h:
bJ u0 154 [.list 2 .nil []] λd l8=>
bJ l8 45 [pV none 0 0] λe l9=>
bJ l9 4 [pB false] λf m=>
bZ (α:=Option Addr) (λD=>
nP g λi8 k5=>
∃B A,aB m i8 (k5+8) 1=some [.list 1 B A]/\
nP g λj2 k6=>
∃p2 a,aB m j2 (k6+8) 1=some [.list 1 p2 a]/\
(0<=((List.length a:Nat):Int)/\((List.length a:Nat):Int)<=((List.length a:Nat):Int)/\((List.length a:Nat):Int)<(4611686018427387904:Int)/\Int.toNat ((List.length a:Nat):Int)*8<=140737488355328/\
∀(Cc:Nat),m Cc=none->
(bJ (Mem.set m Cc (some (.cells 3 (List.flatten (List.replicate (Int.toNat ((List.length a:Nat):Int)) [pI 0]))))) 266 [pA o,.list 1 B A,pV (some ⟨Cc,0,none⟩) (Int.toNat ((List.length a:Nat):Int)) (Int.toNat ((List.length a:Nat):Int))] λi9 o0=>
bJ o0 264 [pA none] λO o2=>
stM O 0 [pP i9 0] o2 λo3=>
D (some ⟨O,0,none⟩) o3)/\
(bJ (Mem.set m Cc (some (.cells 3 (List.flatten (List.replicate (Int.toNat ((List.length a:Nat):Int)) [pI 0]))))) 264 [pA none] λP o4=>
bJ o4 266 [pA o,.list 1 B A,pV (some ⟨Cc,0,none⟩) (Int.toNat ((List.length a:Nat):Int)) (Int.toNat ((List.length a:Nat):Int))] λj0 o5=>
stM P 0 [pP j0 0] o5 λo6=>
D (some ⟨P,0,none⟩) o6))/\
(bJ m 264 [pA none] λQ c5=>
0<=((List.length a:Nat):Int)/\((List.length a:Nat):Int)<=((List.length a:Nat):Int)/\((List.length a:Nat):Int)<(4611686018427387904:Int)/\Int.toNat ((List.length a:Nat):Int)*8<=140737488355328/\
∀(VJ:Nat),c5 VJ=none->
bJ (Mem.set c5 VJ (some (.cells 3 (List.flatten (List.replicate (Int.toNat ((List.length a:Nat):Int)) [pI 0]))))) 266 [pA o,.list 1 B A,pV (some ⟨VJ,0,none⟩) (Int.toNat ((List.length a:Nat):Int)) (Int.toNat ((List.length a:Nat):Int))] λj1 m0=>
stM Q 0 [pP j1 0] m0 λm1=>
D (some ⟨Q,0,none⟩) m1))
(λt n3=>
bJ n3 154 [.list 2 .nil []] λp m2=>
ak (α:=Int) (λF l j=>
ab (decide (l<((List.length E:Nat):Int)))
(0<=l/\∃(c3:List PV),(E)[Int.toNat l]?=some c3/\
∃e0 d9 e2 e1,ay c3 0 2=some [.list 1 e0 d9,.list 4 e2 e1]/\
bJ j 193 [.list 1 .nil [],.list 4 .nil []] λi m3=>
stM i 0 [.list 1 e0 d9,.list 4 e2 e1] m3 λb=>
nP g λj5 k9=>
∃e3,aB b j5 k9 1=some [pI e3]/\
ab (e3 == 1)
(nP g λj6 l0=>
∃f7 f8 f9 p9 g0 q0 g1 g2 q1 g3,aB b j6 l0 7=some [pI f7,pB f8,pS f9,.list 6 p9 g0,.list 6 q0 g1,pB g2,.list 7 q1 g3]/\
nP g λj7 l1=>
∃g4 g5 g6 q2 g7 q3 g8 g9 q4 h0,aB b j7 l1 7=some [pI g4,pB g5,pS g6,.list 6 q2 g7,.list 6 q3 g8,pB g9,.list 7 q4 h0]/\
∃h2 h1,aB b i 1 1=some [.list 4 h2 h1]/\
nP g λj8 l2=>
∃q5 h3,aB b j8 (l2+8) 1=some [.list 1 q5 h3]/\
(0:Int)<=0/\∃(c4:List PV),(h3)[Int.toNat 0]?=some c4/\
∃h4,ay c4 0 1=some [pI h4]/\
∃h9 h8,aB b i 1 1=some [.list 4 h9 h8]/\
dz prog 168 [pA o,.agg [pI g4,pB g5,pS g6,.list 6 .sh g7,.list 6 .sh g8,pB g9,.list 7 .sh h0],.list 4 h2 h1,pI h4] b λo7 m4=>
∃h5 h6 h7,o7=(.fn h5 h6 h7)/\
aa prog 167 [.agg [pI f7,pB f8,pS f9,.list 6 .sh g0,.list 6 .sh g1,pB g2,.list 7 .sh g3],.fn h5 h6 h7,.list 4 h9 h8] (Mem.or b m4) λo8 m5=>
∃i0 i1 i2,o8=(.fn i0 i1 i2)/\
bk prog (.fn i0 i1 i2) (λp1 N c6=>
∃q6 q7 q8 q9 r0 r1 r2 r3 r4 r5 r6 C r7 L,p1=[.agg [pI q6,pS q7,pI q8,pI q9,pS r0,pI r1,pI r2,pS r3,pI r4,pB r5,pB r6,pI C],.list 4 r7 L]/\
aF (pA t) λj9 l3=>
∃i3,aB c6 j9 l3 1=some [pA i3]/\
aa prog 169 [pA i3,pI 0,pI 1] c6 λo9 n=>
∃i4,o9=(pB i4)/\
ab (!i4)
(stM d 0 [.list 2 .nil []] n λm6=>
stM e 0 [pV none 0 0] m6 λm7=>
stM f 0 [pB false] m7 λm8=>
N (some .ret) m8)
(∃i5 M,aB n p 0 1=some [.list 2 i5 M]/\
∃r8 s,aB n i 0 1=some [.list 1 r8 s]/\
∃r9 k,aB n i 0 1=some [.list 1 r9 k]/\
∃s0 i6,aB n i 0 1=some [.list 1 s0 i6]/\
(0:Int)<=(0:Int)/\0<=((List.length k:Nat):Int)/\((List.length k:Nat):Int)<=((List.length s:Nat):Int)/\((List.length i6:Nat):Int)=((List.length k:Nat):Int)/\
aV true 1 8 .nr (List.drop (Int.toNat (0:Int)) (List.take (Int.toNat ((List.length k:Nat):Int)) s)) [[pI C]] n λs1 m9=>
aV false 2 48 i5 M [[.list 1 .sh ((List.drop (Int.toNat (0:Int)) (List.take (Int.toNat ((List.length k:Nat):Int)) s))++[[pI C]]),.list 4 .sh L]] m9 λk3 n0=>
stM p 0 [.list 2 k3 (M++[[.list 1 .sh ((List.drop (Int.toNat (0:Int)) (List.take (Int.toNat ((List.length k:Nat):Int)) s))++[[pI C]]),.list 4 .sh L]])] n0 λn1=>
N none n1))
(λl7 q=>
PK l7
(F (IntKind.wrap .i64 (l+1)) q)
(∃a2 T,aB q d 0 1=some [.list 2 a2 T]/\
∃a3 b7 b6,aB q e 0 1=some [pV a3 b7 b6]/\
∃b8,aB q f 0 1=some [pB b8]/\
K (.aD [.list 2 a2 T,pV a3 b7 b6,pB b8]) q)
[])
m5)
(aF (pA t) λk0 l4=>
∃e4,aB b k0 l4 1=some [pA e4]/\
nP g λk1 l5=>
∃e5 e6 e7 p3 e8 p4 e9 f0 p5 f1,aB b k1 l5 7=some [pI e5,pB e6,pS e7,.list 6 p3 e8,.list 6 p4 e9,pB f0,.list 7 p5 f1]/\
∃f3 f2,aB b i 1 1=some [.list 4 f3 f2]/\
aa prog 170 [pA e4,.list 7 .nr [[pI e5,pB e6,pS e7,.list 6 .sh e8,.list 6 .sh e9,pB f0,.list 7 .sh f1]],.list 4 f3 f2,pI 0] b λp0 r=>
∃p6 f4 f5,p0=(.aD [.list 1 p6 f4,pB f5])/\
ab (!f5)
(stM d 0 [.list 2 .nil []] r λn2=>
stM e 0 [pV none 0 0] n2 λn4=>
stM f 0 [pB false] n4 λu=>
∃V U,aB u d 0 1=some [.list 2 V U]/\
∃a4 a6 a5,aB u e 0 1=some [pV a4 a6 a5]/\
∃b9,aB u f 0 1=some [pB b9]/\
K (.aD [.list 2 V U,pV a4 a6 a5,pB b9]) u)
(ab (decide (((List.length f4:Nat):Int)>0))
(∃f6 H,aB r p 0 1=some [.list 2 f6 H]/\
∃p7 I p8 J,aB r i 0 2=some [.list 1 p7 I,.list 4 p8 J]/\
aV false 2 48 f6 H [[.list 1 .sh I,.list 4 .sh J]] r λk4 n5=>
stM p 0 [.list 2 k4 (H++[[.list 1 .sh I,.list 4 .sh J]])] n5 λn6=>
F (IntKind.wrap .i64 (l+1)) n6)
(F (IntKind.wrap .i64 (l+1)) r))))
(∃z y,aB j p 0 1=some [.list 2 z y]/\
(aF (pA t) λk2 l6=>
∃c8,aB j k2 l6 1=some [pA c8]/\
nP c8 λR S=>
(∃d0 d8 d7,aB j R (S+2) 1=some [pV d0 d8 d7]/\
(stM d 0 [.list 2 z y] j λn7=>
(stM e 0 [pV d0 d8 d7] n7 λn8=>
(stM f 0 [pB true] n8 λv=>
∃X W,aB v d 0 1=some [.list 2 X W]/\
∃a7 a9 a8,aB v e 0 1=some [pV a7 a9 a8]/\
∃c0,aB v f 0 1=some [pB c0]/\
K (.aD [.list 2 X W,pV a7 a9 a8,pB c0]) v)/\
True)/\
True)/\
True)/\
(stM d 0 [.list 2 z y] j λc7=>
∃d1 d3 d2,aB c7 R (S+2) 1=some [pV d1 d3 d2]/\
(stM e 0 [pV d1 d3 d2] c7 λn9=>
(stM f 0 [pB true] n9 λw=>
∃Z Y,aB w d 0 1=some [.list 2 Z Y]/\
∃b0 b2 b1,aB w e 0 1=some [pV b0 b2 b1]/\
∃c1,aB w f 0 1=some [pB c1]/\
K (.aD [.list 2 Z Y,pV b0 b2 b1,pB c1]) w)/\
True)/\
True)/\
True)/\
(stM d 0 [.list 2 z y] j λG=>
aF (pA t) λj3 k7=>
∃c9,aB G j3 k7 1=some [pA c9]/\
nP c9 λj4 k8=>
∃d4 d6 d5,aB G j4 (k8+2) 1=some [pV d4 d6 d5]/\
(stM e 0 [pV d4 d6 d5] G λo1=>
(stM f 0 [pB true] o1 λx=>
∃a1 a0,aB x d 0 1=some [.list 2 a1 a0]/\
∃b3 b5 b4,aB x e 0 1=some [pV b3 b5 b4]/\
∃c2,aB x f 0 1=some [pB c2]/\
K (.aD [.list 2 a1 a0,pV b3 b5 b4,pB c2]) x)/\
True)/\
True)/\
True))
(0) m2)):aa prog 105 [pA o,pA g,.list 2 i7 E] u0 K:=
VC [13,1000020] [(4,⟨[(32,.one (.raw (.int .i64)))],[]⟩)] [(2,⟨[(9,.one (.raw .ptr))],[]⟩)] [(85,[78,84])] [] [] [7,27,112,113,2029002] func105 h
theorem Ao.c{e f:Option Addr}(h:
nP f λk n=>
∃s d,aB u0 k (n+8) 1=some [.list 1 s d]/\
ak (α:=Int) (λm a b=>
ab (decide (a<((List.length d:Nat):Int)))
(0<=a/\∃(g:List PV),(d)[Int.toNat a]?=some g/\
∃i,ay g 0 1=some [pI i]/\
nP e λl o=>
∃j,aB b l (o+3) 1=some [pA j]/\
aa prog 171 [pA j,pI i] b λq p=>
∃r,q=(pB r)/\
m (IntKind.wrap .i64 (a+1)) p)
(K (.aD []) b))
(0) u0):aa prog 106 [pA e,pA f] u0 K:=
VC [] [(1,⟨[(11,.one (.raw (.int .i64)))],[]⟩)] [] [] [] [] [] func106 h
theorem Eu.c{e:Option Addr}(h:
bJ u0 3 [pI 0] λa x=>
stM a 0 [pI 0] x λg=>
nP e λs u=>
∃q,aB g s (u+6) 1=some [pA q]/\
aa prog 89 [pA q] g λA y=>
∃j k l,A=(.fn j k l)/\
bk prog (.fn j k l) (λB r d=>
∃C D F E H G I b,B=[pS C,.agg [pS D,.list 7 F E,.list 19 H G,.list 1 I b]]/\
∃m,aB d a 0 1=some [pI m]/\
0<=(IntKind.wrap .i64 (((List.length b:Nat):Int)-1))/\∃(f:List PV),(b)[Int.toNat (IntKind.wrap .i64 (((List.length b:Nat):Int)-1))]?=some f/\
∃n,ay f 0 1=some [pA n]/\
nP n λt v=>
∃J o,aB d t (v+9) 1=some [.list 2 J o]/\
stM a 0 [pI (IntKind.wrap .i64 (m+((List.length o:Nat):Int)))] d λz=>
r none z)
(λw i=>
PK w
(∃p,aB i a 0 1=some [pI p]/\
K (pI p) i)
(False)
[])
y):aa prog 107 [pA e] u0 K:=
VC [5] [] [] [(11,[139,129])] [] [] [] func107 h
theorem Lw.c{b:ByteArray}{e i:Fl}{d a:Lq}(h:
dz prog 173 [.list 7 e d] u0 λm k=>
∃g f,m=(.list 7 g f)/\
aV true 19 224 .nil [] a (Mem.or u0 k) λj l=>
K (.agg [pS b,.list 7 g f,.list 19 j ([]++a)]) l):aa prog 109 [.agg [pS b,.list 7 e d,.list 19 i a]] u0 K:=
VC [1,2] [] [] [] [] [] [] func109 h
theorem rp.c{e:Option Addr}{g:ByteArray}{v w:Fl}{i j:Lq}(h:
nP e λx E=>
∃l k,aB u0 x (E+3) 1=some [.list 12 l k]/\
nP e λy F=>
∃m,aB u0 y F 1=some [pI m]/\
aa prog 121 [.agg [pS g,.list 7 .sh i,.list 19 .sh j],.list 12 l k,pI m] u0 λN L=>
∃o n d,N=(.aD [.list 3 o n,pA d])/\
ak (α:=Int×Int) (λD a b=>
nP d λz G=>
∃P p Q,aB b z G 1=some [pV P p Q]/\
ab (decide (a.2<((p:Nat):Int)))
(nP d λA H=>
∃q r R,aB b A H 1=some [pV q r R]/\
cK q λB I=>
0<=a.2/\a.2<((r:Nat):Int)/\
∃f,aB b B (I+Int.toNat a.2*1) 1=some [pI f]/\
D ((if f>a.1 then f else a.1),(IntKind.wrap .i64 (a.2+1))) b)
(nP d λC J=>
∃u,aB b C (J+2) 1=some [pB u]/\
dz prog 174 [.list 3 o n] b λO M=>
∃t s,O=(.list 3 t s)/\
K (.aD [.list 3 t s,pI a.1,pB (!u)]) (Mem.or b M)))
(0,0) L):aa prog 110 [pA e,.agg [pS g,.list 7 v i,.list 19 w j]] u0 K:=
VC [3] [(4,⟨[(9,.one (.raw (.int .i64))),(10,.one (.raw (.int .i64)))],[]⟩)] [] [] [] [] [27,28,36,37] func110 h
theorem Lv.c{p q:Fl}{b d:Lq}(h:
bZ (α:=Unit) (λf=>
ak (α:=Int) (λr a e=>
ab (decide (a<((List.length b:Nat):Int)))
(ab (decide (a<((List.length d:Nat):Int)))
(0<=a/\∃(g:List PV),(b)[Int.toNat a]?=some g/\
∃l,ay g 0 1=some [pI l]/\
0<=a/\∃(i:List PV),(d)[Int.toNat a]?=some i/\
∃m,ay i 0 1=some [pI m]/\
ab (l != m)
(0<=a/\∃(j:List PV),(b)[Int.toNat a]?=some j/\
∃n,ay j 0 1=some [pI n]/\
0<=a/\∃(k:List PV),(d)[Int.toNat a]?=some k/\
∃o,ay k 0 1=some [pI o]/\
K (pI (IntKind.wrap .i64 (n-o))) e)
(r (IntKind.wrap .i64 (a+1)) e))
(f () e))
(f () e))
(0) u0)
(λt s=>
K (pI (IntKind.wrap .i64 (((List.length b:Nat):Int)-((List.length d:Nat):Int)))) s)):aa prog 111 [.list 1 p b,.list 1 q d] u0 K:=
VC [] [(2,⟨[(5,.one (.raw (.int .i64)))],[]⟩)] [(6,⟨[],[]⟩)] [] [] [] [] func111 h
theorem wO.c{p q:Fl}{b d:Lq}(h:
bZ (α:=Unit) (λf=>
ak (α:=Int) (λr a e=>
ab (decide (a<((List.length b:Nat):Int)))
(ab (decide (a<((List.length d:Nat):Int)))
(0<=a/\∃(g:List PV),(b)[Int.toNat a]?=some g/\
∃l,ay g 0 1=some [pI l]/\
0<=a/\∃(i:List PV),(d)[Int.toNat a]?=some i/\
∃m,ay i 0 1=some [pI m]/\
ab (l != m)
(0<=a/\∃(j:List PV),(b)[Int.toNat a]?=some j/\
∃n,ay j 0 1=some [pI n]/\
0<=a/\∃(k:List PV),(d)[Int.toNat a]?=some k/\
∃o,ay k 0 1=some [pI o]/\
K (pB (decide (n<o))) e)
(r (IntKind.wrap .i64 (a+1)) e))
(f () e))
(f () e))
(0) u0)
(λt s=>
K (pB (decide (((List.length b:Nat):Int)<((List.length d:Nat):Int)))) s)):aa prog 112 [.list 1 p b,.list 1 q d] u0 K:=
VC [] [(2,⟨[(5,.one (.raw (.int .i64)))],[]⟩)] [(6,⟨[],[]⟩)] [] [] [] [] func112 h
theorem As.c{A j l:Fl}{b i k:Lq}{g:Int}{d:Option Addr}(h:
ak (α:=Int×(Fl×Lq)×Int) (λC a e=>
ab (decide (a.2.2<((List.length b:Nat):Int)))
(nP d λB D=>
∃o,aB e B (D+2) 1=some [pB o]/\
ab (!o)
(0<=a.2.2/\∃(m:List PV),(b)[Int.toNat a.2.2]?=some m/\
∃p q r L s M t u N v,ay m 0 7=some [pI p,pB q,pS r,.list 6 L s,.list 6 M t,pB u,.list 7 N v]/\
aa prog 175 [.agg [pI p,pB q,pS r,.list 6 .sh s,.list 6 .sh t,pB u,.list 7 .sh v],pI a.1,.list 3 a.2.1.1 a.2.1.2,.list 12 l k,pA d] e λH E=>
∃w f,H=(.list 3 w f)/\
aa prog 176 [pA d,pI a.1,pI ((List.length f:Nat):Int)] E λI F=>
 I=(.aD [])/\
0<=a.2.2/\∃(n:List PV),(b)[Int.toNat a.2.2]?=some n/\
∃y x,ay n 6 1=some [.list 7 y x]/\
aa prog 80 [.list 7 y x] F λJ G=>
∃z,J=(pI z)/\
C ((IntKind.wrap .i64 (a.1+(IntKind.wrap .i64 (1+z)))),(w,f),(IntKind.wrap .i64 (a.2.2+1))) G)
(K (.list 3 a.2.1.1 a.2.1.2) e))
(K (.list 3 a.2.1.1 a.2.1.2) e))
(g,(j,i),0) u0):aa prog 113 [.list 7 A b,pI g,.list 3 j i,.list 12 l k,pA d] u0 K:=
VC [] [(2,⟨[(1,.one (.raw (.int .i64))),(2,.one (.list 3)),(11,.one (.raw (.int .i64)))],[]⟩)] [] [] [] [] [] func113 h
theorem yP.c{a p r f i:Int}{e q g:ByteArray}{E d:Fl}{k b:Lq}(h:
ab (a == 8)
(ak (α:=Int) (λF j m=>
ab (decide (j<((List.length k:Nat):Int)))
(0<=j/\∃(s:List PV),(k)[Int.toNat j]?=some s/\
∃u v w,ay s 0 3=some [pI u,pS v,pI w]/\
ab ((u == f)&&(aJ v g&&((w == i)&&true)))
(K (.aD [.list 4 d b,pB true]) m)
(F (IntKind.wrap .i64 (j+1)) m))
(K (.aD [.list 4 .nil [],pB false]) m))
(0) u0)
(ab (decide (a<1))
(K (.aD [.list 4 .nil [],pB false]) u0)
(ab (decide (a>7))
(K (.aD [.list 4 .nil [],pB false]) u0)
(bZ (α:=Int×ByteArray×Int) (λo=>
ab (!aJ e ⟨#[]⟩)
(aa prog 177 [.list 4 d b,pS e] u0 λI n=>
∃x y z A,I=(.aD [.agg [pI x,pS y,pI z],pB A])/\
ab (!A)
(ab (a != 1)
(K (.aD [.list 4 .nil [],pB false]) n)
(aa prog 178 [.list 4 d b,pS e,.agg [pI f,pS g,pI i]] n λJ H=>
∃C B,J=(.list 4 C B)/\
K (.aD [.list 4 C B,pB true]) H))
(o (x,y,z) n))
(o (p,q,r) u0))
(λl G=>
aa prog 179 [pI a,.agg [pI f,pS g,pI i],.agg [pI l.1,pS l.2.1,pI l.2.2]] G λL t=>
∃D,L=(pB D)/\
ab (!D)
(K (.aD [.list 4 .nil [],pB false]) t)
(K (.aD [.list 4 d b,pB true]) t)))))):aa prog 114 [.agg [pI a,pS e,pI p,pS q,pI r,.list 3 E k],.agg [pI f,pS g,pI i],.list 4 d b] u0 K:=
VC [3,4,9,10] [(3,⟨[(8,.one (.raw (.int .i64)))],[]⟩)] [(18,⟨[(9,.box [.raw (.int .i64),.raw .str,.raw (.int .i64)])],[]⟩)] [] [] [] [] func114 h
theorem uB.c{v i:Fl}{b g:Lq}{d f:Int}{e:ByteArray}(h:
ak (α:=(Fl×Lq)×Int) (λw a k=>
ab (decide (a.2<((List.length b:Nat):Int)))
(0<=a.2/\∃(j:List PV),(b)[Int.toNat a.2]?=some j/\
∃m n o p q y r,ay j 0 6=some [pI m,pS n,pI o,pS p,pI q,.list 3 y r]/\
aa prog 114 [.agg [pI m,pS n,pI o,pS p,pI q,.list 3 .sh r],.agg [pI d,pS e,pI f],.list 4 a.1.1 a.1.2] k λx l=>
∃t s u,x=(.aD [.list 4 t s,pB u])/\
ab (!u)
(K (.aD [.list 4 .nil [],pB false]) l)
(w ((t,s),(IntKind.wrap .i64 (a.2+1))) l))
(K (.aD [.list 4 a.1.1 a.1.2,pB true]) k))
((i,g),0) u0):aa prog 115 [.list 6 v b,.agg [pI d,pS e,pI f],.list 4 i g] u0 K:=
VC [4] [(2,⟨[(2,.one (.list 4)),(8,.one (.raw (.int .i64)))],[]⟩)] [] [] [] [] [] func115 h
theorem Ly.c(h:
aa prog 180 [] u0 λi e=>
∃a,i=(pA a)/\
aa prog 181 [] e λj f=>
∃b,j=(pA b)/\
bJ f 294 [pA a,pA b] λd g=>
K (pP d 0) g):aa prog 116 [] u0 K:=
VC [] [] [] [] [] [] [] func116 h
theorem Ar.c{f:Fn}{g i j:List PV}(h:
bJ u0 126 [.fn f g i] λF l=>
∃D,ay j 0 1=some [pA D]/\
nP D λE H=>
∃o,aB l E (H+6) 1=some [pA o]/\
aa prog 89 [pA o] l λN J=>
∃p q r,N=(.fn p q r)/\
bk prog (.fn p q r) (λQ e L=>
∃s t R u S v T w,Q=[pS s,.agg [pS t,.list 7 R u,.list 19 S v,.list 1 T w]]/\
aa prog 76 [pS s,.agg [pS t,.list 7 .sh u,.list 19 .sh v,.list 1 .sh w]] L λO M=>
∃U d,O=(.list 2 U d)/\
ak (α:=Int) (λG a b=>
ab (decide (a<((List.length d:Nat):Int)))
(0<=a/\∃(k:List PV),(d)[Int.toNat a]?=some k/\
∃x V y,ay k 0 2=some [pS x,.list 1 V y]/\
∃z A B,aB b F 0 1=some [.fn z A B]/\
bY prog (.fn z A B) [.agg [pS x,.list 1 .sh y]] b λP n=>
∃C,P=(pB C)/\
ab (!C)
(e (some .ret) n)
(G (IntKind.wrap .i64 (a+1)) n))
(e none b))
(0) M)
(λI m=>
PK I
(K (.aD []) m)
(K (.aD []) m)
[])
J):aa prog 120 [.fn f g i,.bn j 0] u0 K:=
VC [4,6] [(5,⟨[(18,.one (.raw (.int .i64)))],[]⟩)] [] [(12,[139,129])] [] [] [] func120 h
theorem tv.c{k:ByteArray}{b m e:Fl}{a l d:Lq}{f:Int}(h:
bJ u0 198 [pV none 0 0,pI f,pB false] λg n=>
aa prog 113 [.list 7 b a,pI 0,.list 3 .nr [[.list 1 .sh [],.list 4 .sh [],pI 0]],.list 12 e d,pP g 0] n λp o=>
∃j i,p=(.list 3 j i)/\
K (.aD [.list 3 j i,pP g 0]) o):aa prog 121 [.agg [pS k,.list 7 b a,.list 19 m l],.list 12 e d,pI f] u0 K:=
VC [3] [] [] [] [] [] [2011000] func121 h
end Go.Proofs.YtbodiiomcfgokaaGreat
