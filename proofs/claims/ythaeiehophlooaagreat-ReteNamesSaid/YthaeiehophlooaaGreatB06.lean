import Derived.Test.YthaeiehophlooaaGreatB05
open Go.IntKind (wrap)
open Int (toNat)
open List (drop flatten replicate take)
set_option linter.all false
namespace Go.Proofs.YthaeiehophlooaaGreat
open Go.Proofs.Tryz Go.aO
variable {u0:Mem} {K:Kq}
set_option maxRecDepth 100000
theorem nY.c{f:ByteArray}{b1 b2 p:Fl}{g i o:Lq}(h:
bZ (α:=Bool) (λx=>
aa prog 5 [.agg [pS f,.list 7 .sh g,.list 19 .sh i]] u0 λe2 z=>
∃V,e2=(pB V)/\
ab V
(x true z)
(aa prog 6 [.list 12 p o,pI 30] z λe3 c8=>
∃W,e3=(pB W)/\
x (!W) c8))
(λc0 y=>
ab c0
(aa prog 7 [] y λf4 d6=>
∃X,f4=(pB X)/\
K (pB X) d6)
(aa prog 8 [.agg [pS f,.list 7 .sh g,.list 19 .sh i]] y λf6 D=>
∃g7 Y,f6=(.aA [pI g7,pI Y])/\
ab (Y != 0)
(aa prog 7 [] D λf7 d8=>
∃Z,f7=(pB Z)/\
K (pB Z) d8)
(aa prog 9 [.agg [pS f,.list 7 .sh g,.list 19 .sh i]] D λf8 d9=>
∃g8 t v u w n a0,f8=(.agg [pS g8,pV t v u,pV w n a0])/\
aa prog 10 [pV t v u] d9 λf9 e0=>
 f9=(.aA [])/\
ao (α:=Int) (λb6 a r=>
ab (decide (a<((n:Nat):Int)))
(bH w λb d=>
0<=a/\a<((n:Nat):Int)/\
∃a1,ay r b (d+toNat a*19) 1=some [pS a1]/\
aa prog 11 [pS a1] r λg0 e1=>
∃a2,g0=(pS a2)/\
stM b (d+toNat a*19) [pS a2] e1 λe=>
∃a3,ay e b ((d+toNat a*19)+1) 1=some [pS a3]/\
∃a5,ay e b (((d+toNat a*19)+5)+1) 1=some [pS a5]/\
∃a7,ay e b (((d+toNat a*19)+5)+5) 1=some [pS a7]/\
∃a9,ay e b ((d+toNat a*19)+15) 1=some [pS a9]/\
cV prog 11 [pS a3] e λg1 q=>
∃a4,g1=(pS a4)/\
cV prog 11 [pS a5] (Mem.or e q) λg2 A=>
∃a6,g2=(pS a6)/\
cV prog 11 [pS a7] (Mem.or (Mem.or e q) A) λe4 c1=>
∃a8,e4=(pS a8)/\
aa prog 11 [pS a9] (Mem.or (Mem.or (Mem.or e q) A) c1) λe5 c2=>
∃b0,e5=(pS b0)/\
stM b ((d+toNat a*19)+1) [pS a4] c2 λc3=>
stM b (((d+toNat a*19)+5)+1) [pS a6] c3 λc4=>
stM b (((d+toNat a*19)+5)+5) [pS a8] c4 λc5=>
stM b ((d+toNat a*19)+15) [pS b0] c5 λc6=>
b6 (wrap .i64 (a+1)) c6)
(aa prog 9 [.agg [pS f,.list 7 .sh g,.list 19 .sh i]] r λe6 c7=>
∃g3 g4 E g5 F,e6=(.agg [pS g3,.list 7 g4 E,.list 19 g5 F])/\
cg c7 25 [pS ⟨#[97]⟩,.list 7 .sh E,.list 19 .sh F,pS ⟨#[98]⟩,pV t v u,pV w n a0] λb3 c9=>
aa prog 12 [pV (some ⟨b3,0,none⟩) 2 2,.list 12 p o] c9 λe7 k=>
∃l G,e7=(.aA [pA l,pA G])/\
ab (Option.isNone l)
(K (pB false) k)
(nP G λb4 b8=>
∃g6 H,ay k b4 (b8+2) 1=some [.list 3 g6 H]/\
ab ((H.length:Int) != 2)
(aa prog 7 [] k λe8 d0=>
∃I,e8=(pB I)/\
K (pB I) d0)
(aa prog 14 [pA l,pS ⟨#[97]⟩] k λe9 d1=>
∃J L M,e9=(.fn J L M)/\
aa prog 13 [.fn J L M] d1 λf0 d2=>
∃s m N,f0=(pV s m N)/\
aa prog 14 [pA l,pS ⟨#[98]⟩] d2 λf1 d3=>
∃O P Q,f1=(.fn O P Q)/\
aa prog 13 [.fn O P Q] d3 λf2 d4=>
∃S R,f2=(.list 2 S R)/\
ao (α:=Int) (λb7 j B=>
ab (decide (j<((m:Nat):Int)))
(bH s λb5 b9=>
0<=j/\j<((m:Nat):Int)/\
stM b5 (b9+toNat j*2) [pS ⟨#[98]⟩] B λd5=>
b7 (wrap .i64 (j+1)) d5)
(aa prog 15 [pV s m N,.list 2 S R] B λf3 C=>
∃T,f3=(pB T)/\
ab T
(aa prog 7 [] C λf5 d7=>
∃U,f5=(pB U)/\
K (pB U) d7)
(K (pB false) C)))
(0) d4))))
(0) e0)))):aa prog 3 [.agg [pS f,.list 7 b1 g,.list 19 b2 i],.list 12 p o] u0 K:=
VC [2,7] [(10,⟨[(8,.one (.raw (.int .i64)))],[]⟩),(24,⟨[(14,.one (.raw (.int .i64)))],[]⟩)] [(2,⟨[(21,.one (.raw .bool))],[]⟩)] [] [] [106] [7,12,32,35,39,45,105,106,122,127,132,136] func3 h
theorem uw.c{e:ByteArray}{d j:Fl}{b f:Lq}(h:
aa prog 25 [.list 7 d b,pI 40,pI 0] u0 λl a=>
∃i,l=(pI i)/\
ab (decide (i>40))
(K (pB true) a)
(ab (decide ((f.length:Int)>40))
(K (pB true) a)
(ab (decide ((((ByteArray.size e:Nat):Int):Int)>100))
(K (pB true) a)
(aa prog 26 [.list 7 d b] a λm k=>
∃g,m=(pB g)/\
K (pB g) k)))):aa prog 5 [.agg [pS e,.list 7 d b,.list 19 j f]] u0 K:=
VC [1] [] [] [] [] [] [] func5 h
theorem sr.c{b:Fl}{a:Lq}{d:Int}(h:
aa prog 27 [.list 12 b a,pI d] u0 λg f=>
∃e,g=(pB e)/\
K (pB e) f):aa prog 6 [.list 12 b a,pI d] u0 K:=
VC [] [] [] [] [] [] [] func6 h
theorem so.c(h:
aa prog 16 [pI 10,pI 10] u0 λb8 m=>
∃f s,b8=(.aA [pA f,pI s])/\
ab (s != 0)
(K (pB false) m)
(ab (Option.isNone f)
(K (pB false) m)
(aa prog 29 [pS ⟨#[120]⟩] m λb9 a7=>
∃t u v,b9=(.agg [pI t,pS u,pI v])/\
aa prog 28 [pS ⟨#[]⟩,.agg [pI t,pS u,pI v]] a7 λc9 b2=>
∃d7 w,c9=(.list 6 d7 w)/\
aa prog 28 [pS ⟨#[118]⟩,.agg [pI 0,pS ⟨#[]⟩,pI 0]] b2 λd0 b3=>
∃d8 x,d0=(.list 6 d8 x)/\
aa prog 29 [pS ⟨#[121]⟩] b3 λd1 b4=>
∃y z A,d1=(.agg [pI y,pS z,pI A])/\
aa prog 28 [pS ⟨#[]⟩,.agg [pI y,pS z,pI A]] b4 λd2 b5=>
∃d9 B,d2=(.list 6 d9 B)/\
aa prog 28 [pS ⟨#[118]⟩,.agg [pI 0,pS ⟨#[]⟩,pI 0]] b5 λd3 b6=>
∃e0 C,d3=(.list 6 e0 C)/\
aa prog 29 [pS ⟨#[122]⟩] b6 λd4 b7=>
∃D E F,d4=(.agg [pI D,pS E,pI F])/\
aa prog 30 [pS ⟨#[83]⟩,pI 1] b7 λd5 a=>
∃i j k,d5=(.agg [pI i,pS j,pI k])/\
cV prog 29 [pS ⟨#[120]⟩] a λd6 b=>
∃G H I,d6=(.agg [pI G,pS H,pI I])/\
cV prog 31 [pI 1] (Mem.or a b) λc0 d=>
∃J L M,c0=(.agg [pI J,pS L,pI M])/\
cV prog 29 [pS ⟨#[120]⟩] (Mem.or (Mem.or a b) d) λc1 g=>
∃N O P,c1=(.agg [pI N,pS O,pI P])/\
cV prog 31 [pI 2] (Mem.or (Mem.or (Mem.or a b) d) g) λc2 n=>
∃Q R S,c2=(.agg [pI Q,pS R,pI S])/\
cV prog 29 [pS ⟨#[121]⟩] (Mem.or (Mem.or (Mem.or (Mem.or a b) d) g) n) λc3 r=>
∃T U V,c3=(.agg [pI T,pS U,pI V])/\
cV prog 31 [pI 2] (Mem.or (Mem.or (Mem.or (Mem.or (Mem.or a b) d) g) n) r) λc4 a8=>
∃W X Y,c4=(.agg [pI W,pS X,pI Y])/\
aa prog 32 [pA f,.agg [pS ⟨#[97]⟩,.list 7 .sh [[pI 1,pB true,pS ⟨#[115]⟩,.list 6 .sh w,.list 6 .sh x,pB false,.list 7 .sh []],[pI 2,pB false,pS ⟨#[115]⟩,.list 6 .sh B,.list 6 .sh C,pB false,.list 7 .sh []]],.list 19 .sh [[pS ⟨#[115]⟩,pS ⟨#[]⟩,pI D,pS E,pI F,pI 0,pS ⟨#[118]⟩,pI 0,pS ⟨#[]⟩,pI 0,pS ⟨#[]⟩,pI 0,pS ⟨#[]⟩,pI 0,pI 1,pS ⟨#[]⟩,pI 0,pS ⟨#[]⟩,pI 0]]]] (Mem.or (Mem.or (Mem.or (Mem.or (Mem.or (Mem.or a b) d) g) n) r) a8) λc5 a9=>
∃Z,c5=(pI Z)/\
aa prog 33 [pA f,.list 12 .nr [[pI i,pS j,pI k,pI G,pS H,pI I,pI J,pS L,pI M,pB false,pB true,pI 1],[pI i,pS j,pI k,pI N,pS O,pI P,pI Q,pS R,pI S,pB false,pB true,pI 2],[pI i,pS j,pI k,pI T,pS U,pI V,pI W,pS X,pI Y,pB false,pB true,pI 3]],.list 1 .nil []] a9 λc6 b0=>
∃a0,c6=(pI a0)/\
aa prog 34 [pA f] b0 λc7 b1=>
∃a1 a2 a3,c7=(.fn a1 a2 a3)/\
aa prog 13 [.fn a1 a2 a3] b1 λc8 e=>
∃e1 l,c8=(.list 2 e1 l)/\
ab (Z == 0)
(ab (a0 == 0)
(ab ((l.length:Int) == 1)
((0:Int)<=0/\∃(o:List PV),(l)[toNat 0]?=some o/\
∃e2 a4,aE o 1 1=some [.list 1 e2 a4]/\
ab ((a4.length:Int) == 1)
((0:Int)<=0/\∃(p:List PV),(l)[toNat 0]?=some p/\
∃e3 a5,aE p 1 1=some [.list 1 e3 a5]/\
(0:Int)<=0/\∃(q:List PV),(a5)[toNat 0]?=some q/\
∃a6,aE q 0 1=some [pI a6]/\
K (pB (a6 == 1)) e)
(K (pB false) e))
(K (pB false) e))
(K (pB false) e))
(K (pB false) e)))):aa prog 7 [] u0 K:=
VC [3,4] [] [] [] [] [] [] func7 h
theorem sj.c{m:ByteArray}{i P:Fl}{b d:Lq}(h:
aa prog 35 [.agg [pS m,.list 7 .sh b,.list 19 .sh d]] u0 λR j=>
∃u l,R=(.aA [pI u,pI l])/\
ab (l != 0)
(K (.aA [pI u,pI l]) j)
((0:Int)<=0/\∃(o:List PV),(b)[toNat 0]?=some o/\
∃v,aE o 0 1=some [pI v]/\
ab (v != 1)
(K (.aA [pI 0,pI 9]) j)
(aa prog 36 [.list 7 i b,pI 0,.list 1 .nil []] j λS q=>
∃f e w x,S=(.aA [.list 1 f e,pI w,pB x])/\
ab (!x)
(K (.aA [pI w,pI 6]) q)
(aa prog 37 [.list 7 i b] q λT Q=>
∃g,T=(pI g)/\
ao (α:=Int) (λn a r=>
ab (decide (a<(d.length:Int)))
(0<=a/\∃(p:List PV),(d)[toNat a]?=some p/\
∃X y z A B C D E F G H I J L Y Z a0 a1 a2,aE p 0 19=some [pS X,pS y,pI z,pS A,pI B,pI C,pS D,pI E,pS F,pI G,pS H,pI I,pS J,pI L,pI Y,pS Z,pI a0,pS a1,pI a2]/\
aa prog 38 [.agg [pS y,pI z,pS A,pI B],.list 1 f e] r λU k=>
∃M,U=(pB M)/\
ab (!M)
(K (.aA [pI (wrap .i64 (g+a)),pI 6]) k)
(ab (C != 0)
(aa prog 38 [.agg [pS D,pI E,pS F,pI G],.list 1 f e] k λV s=>
∃N,V=(pB N)/\
ab (!N)
(K (.aA [pI (wrap .i64 (g+a)),pI 6]) s)
(aa prog 38 [.agg [pS H,pI I,pS J,pI L],.list 1 f e] s λW t=>
∃O,W=(pB O)/\
ab (!O)
(K (.aA [pI (wrap .i64 (g+a)),pI 6]) t)
(n (wrap .i64 (a+1)) t)))
(n (wrap .i64 (a+1)) k)))
(K (.aA [pI (-1),pI 0]) r))
(0) Q)))):aa prog 8 [.agg [pS m,.list 7 i b,.list 19 P d]] u0 K:=
VC [1,10] [(11,⟨[(9,.one (.raw (.int .i64)))],[]⟩)] [] [] [] [] [] func8 h
theorem pW.c{a:ByteArray}{d f:Fl}{b e:Lq}(h:
cV prog 39 [.list 7 d b] u0 λn g=>
∃l k,n=(.list 7 l k)/\
cV prog 40 [.list 19 f e] (Mem.or u0 g) λo m=>
∃j i,o=(.list 19 j i)/\
K (.agg [pS a,.list 7 l k,.list 19 j i]) (Mem.or (Mem.or u0 g) m)):aa prog 9 [.agg [pS a,.list 7 d b,.list 19 f e]] u0 K:=
VC [1,2] [] [] [] [] [] [] func9 h
theorem n_.c{a:ByteArray}{d f:Fl}{b e:Lq}(h:
cV prog 39 [.list 7 d b] u0 λp g=>
∃l n m,p=(pV l n m)/\
cV prog 40 [.list 19 f e] (Mem.or u0 g) λq o=>
∃i k j,q=(pV i k j)/\
K (.agg [pS a,pV l n m,pV i k j]) (Mem.or (Mem.or u0 g) o)):aa prog 9 [.agg [pS a,.list 7 d b,.list 19 f e]] u0 K:=
VC [1,2] [] [] [] [] [] [2,7,10,11] func9 h
theorem mc.c{l:Option Addr}{j F:Nat}(h:
ao (α:=Int) (λL a k=>
ab (decide (a<((j:Nat):Int)))
(bH l λb d=>
0<=a/\a<((j:Nat):Int)/\
∃m,ay k b ((d+toNat a*7)+2) 1=some [pS m]/\
aa prog 11 [pS m] k λZ S=>
∃n,Z=(pS n)/\
stM b ((d+toNat a*7)+2) [pS n] S λT=>
ao (α:=Int) (λM e i=>
∃a3 o a4,ay i b ((d+toNat a*7)+3) 1=some [pV a3 o a4]/\
ab (decide (e<((o:Nat):Int)))
(∃p q a5,ay i b ((d+toNat a*7)+3) 1=some [pV p q a5]/\
∃r s a6,ay i b ((d+toNat a*7)+3) 1=some [pV r s a6]/\
bH r λG O=>
0<=e/\e<((s:Nat):Int)/\
∃t,ay i G ((O+toNat e*6)+1) 1=some [pS t]/\
cV prog 11 [pS t] i λa0 U=>
∃u,a0=(pS u)/\
bH p λH P=>
0<=e/\e<((q:Nat):Int)/\
stM H ((P+toNat e*6)+1) [pS u] (Mem.or i U) λV=>
M (wrap .i64 (e+1)) V)
(ao (α:=Int) (λN f g=>
∃a7 v a8,ay g b ((d+toNat a*7)+4) 1=some [pV a7 v a8]/\
ab (decide (f<((v:Nat):Int)))
(∃w x a9,ay g b ((d+toNat a*7)+4) 1=some [pV w x a9]/\
∃y z b0,ay g b ((d+toNat a*7)+4) 1=some [pV y z b0]/\
bH y λI Q=>
0<=f/\f<((z:Nat):Int)/\
∃A,ay g I ((Q+toNat f*6)+1) 1=some [pS A]/\
cV prog 11 [pS A] g λa1 W=>
∃B,a1=(pS B)/\
bH w λJ R=>
0<=f/\f<((x:Nat):Int)/\
stM J ((R+toNat f*6)+1) [pS B] (Mem.or g W) λX=>
N (wrap .i64 (f+1)) X)
(∃C E D,ay g b ((d+toNat a*7)+6) 1=some [pV C E D]/\
aa prog 10 [pV C E D] g λa2 Y=>
 a2=(.aA [])/\
L (wrap .i64 (a+1)) Y))
(0) i))
(0) T)
(K (.aA []) k))
(0) u0):aa prog 10 [pV l j F] u0 K:=
VC [] [(1,⟨[(2,.one (.raw (.int .i64)))],[]⟩),(6,⟨[(4,.one (.raw (.int .i64)))],[]⟩),(10,⟨[(5,.one (.raw (.int .i64)))],[]⟩)] [] [] [] [] [0,1,2,3,4,5,6,7,8,9,10,11,12,13,14,15,16,17,18,19,20,21,22,23,24,25,26,27,28,29,30,31,32,33,34,35,36,37,38,39,40,41,42,43,44,45,46,47,48,49,50,51,52,53,54,55,56,57,58,59,60,61,62,63,64,65,66,67,68,69,70,71,72,73,74,75,76,77] func10 h
theorem rh.c{c3 c4:Fl}{r u:Lq}(h:
aa prog 16 [pI 200,pI 400] u0 λd6 x=>
∃b P,d6=(.aA [pA b,pI P])/\
ab (P != 0)
(K (.aA [pA none,pA none]) x)
(ab (Option.isNone b)
(K (.aA [pA none,pA none]) x)
(cg x 53 [pI 200,pI 400,.list 3 .nil [],.list 12 .nil [],.list 1 .nil [],.list 1 .nil []] λe c5=>
ao (α:=Int) (λv d y=>
ab (decide (d<(r.length:Int)))
(0<=d/\∃(F:List PV),(r)[toNat d]?=some F/\
∃z f4 A f5 B,aE F 0 3=some [pS z,.list 7 f4 A,.list 19 f5 B]/\
0<=d/\∃(s:List PV),(r)[toNat d]?=some s/\
(∃W g2 Z g5 a2,aE s 0 3=some [pS W,.list 7 g2 Z,.list 19 g5 a2]/\
(aa prog 9 [.agg [pS z,.list 7 .sh A,.list 19 .sh B]] y λd7 d1=>
∃Q f7 R f9 S,d7=(.agg [pS Q,.list 7 f7 R,.list 19 f9 S])/\
(aa prog 32 [pA b,.agg [pS Q,.list 7 .sh R,.list 19 .sh S]] d1 λe6 d2=>
∃T,e6=(pI T)/\
(aa prog 9 [.agg [pS W,.list 7 .sh Z,.list 19 .sh a2]] d2 λe7 d3=>
∃a5 g8 a8 h1 b1,e7=(.agg [pS a5,.list 7 g8 a8,.list 19 h1 b1])/\
(aa prog 41 [pP e 0,.agg [pS a5,.list 7 .sh a8,.list 19 .sh b1]] d3 λe8 N=>
∃b4,e8=(pI b4)/\
ab (T != b4)
(K (.aA [pA none,pA none]) N)
(v (wrap .i64 (d+1)) N))/\
True)/\
True)/\
True)/\
True)/\
(aa prog 9 [.agg [pS z,.list 7 .sh A,.list 19 .sh B]] y λe9 O=>
∃C f6 D f8 E,e9=(.agg [pS C,.list 7 f6 D,.list 19 f8 E])/\
(∃X g0 a0 g3 a3,aE s 0 3=some [pS X,.list 7 g0 a0,.list 19 g3 a3]/\
(aa prog 32 [pA b,.agg [pS C,.list 7 .sh D,.list 19 .sh E]] O λf0 d4=>
∃U,f0=(pI U)/\
(aa prog 9 [.agg [pS X,.list 7 .sh a0,.list 19 .sh a3]] d4 λf1 d5=>
∃a6 g6 a9 g9 b2,f1=(.agg [pS a6,.list 7 g6 a9,.list 19 g9 b2])/\
(aa prog 41 [pP e 0,.agg [pS a6,.list 7 .sh a9,.list 19 .sh b2]] d5 λf2 H=>
∃b5,f2=(pI b5)/\
ab (U != b5)
(K (.aA [pA none,pA none]) H)
(v (wrap .i64 (d+1)) H))/\
True)/\
True)/\
True)/\
(aa prog 32 [pA b,.agg [pS C,.list 7 .sh D,.list 19 .sh E]] O λf3 c6=>
∃V,f3=(pI V)/\
∃Y g1 a1 g4 a4,aE s 0 3=some [pS Y,.list 7 g1 a1,.list 19 g4 a4]/\
(aa prog 9 [.agg [pS Y,.list 7 .sh a1,.list 19 .sh a4]] c6 λd8 c7=>
∃a7 g7 b0 h0 b3,d8=(.agg [pS a7,.list 7 g7 b0,.list 19 h0 b3])/\
(aa prog 41 [pP e 0,.agg [pS a7,.list 7 .sh b0,.list 19 .sh b3]] c7 λd9 I=>
∃b6,d9=(pI b6)/\
ab (V != b6)
(K (.aA [pA none,pA none]) I)
(v (wrap .i64 (d+1)) I))/\
True)/\
True)/\
True)/\
True)
(ao (α:=Int) (λw a t=>
ab (decide (a<(u.length:Int)))
(0<=a/\∃(G:List PV),(u)[toNat a]?=some G/\
∃f g i j k l m n o p q h2,aE G 0 12=some [pI f,pS g,pI i,pI j,pS k,pI l,pI m,pS n,pI o,pB p,pB q,pI h2]/\
((aa prog 33 [pA b,.list 12 .nr [[pI f,pS g,pI i,pI j,pS k,pI l,pI m,pS n,pI o,pB p,pB q,pI (wrap .i64 (a+1))]],.list 1 .nil []] t λe0 c8=>
∃b7,e0=(pI b7)/\
((aa prog 42 [pP e 0,.list 12 .nr [[pI f,pS g,pI i,pI j,pS k,pI l,pI m,pS n,pI o,pB p,pB q,pI (wrap .i64 (a+1))]],.list 1 .nil []] c8 λe1 J=>
∃c0,e1=(pI c0)/\
ab (b7 != c0)
(K (.aA [pA none,pA none]) J)
(w (wrap .i64 (a+1)) J))/\
True)/\
True)/\
((aa prog 33 [pA b,.list 12 .nr [[pI f,pS g,pI i,pI j,pS k,pI l,pI m,pS n,pI o,pB p,pB q,pI (wrap .i64 (a+1))]],.list 1 .nil []] t λe2 c9=>
∃b8,e2=(pI b8)/\
(aa prog 42 [pP e 0,.list 12 .nr [[pI f,pS g,pI i,pI j,pS k,pI l,pI m,pS n,pI o,pB p,pB q,pI (wrap .i64 (a+1))]],.list 1 .nil []] c9 λe3 L=>
∃c1,e3=(pI c1)/\
ab (b8 != c1)
(K (.aA [pA none,pA none]) L)
(w (wrap .i64 (a+1)) L))/\
True)/\
True)/\
True)/\
(aa prog 33 [pA b,.list 12 .nr [[pI f,pS g,pI i,pI j,pS k,pI l,pI m,pS n,pI o,pB p,pB q,pI (wrap .i64 (a+1))]],.list 1 .nil []] t λe4 d0=>
∃b9,e4=(pI b9)/\
((aa prog 42 [pP e 0,.list 12 .nr [[pI f,pS g,pI i,pI j,pS k,pI l,pI m,pS n,pI o,pB p,pB q,pI (wrap .i64 (a+1))]],.list 1 .nil []] d0 λe5 M=>
∃c2,e5=(pI c2)/\
ab (b9 != c2)
(K (.aA [pA none,pA none]) M)
(w (wrap .i64 (a+1)) M))/\
True)/\
True)/\
True)
(K (.aA [pA b,pP e 0]) t))
(0) y))
(0) c5))):aa prog 12 [.list 3 c3 r,.list 12 c4 u] u0 K:=
VC [11,1000008,1000016] [(6,⟨[(9,.one (.raw (.int .i64)))],[]⟩),(11,⟨[(10,.one (.raw (.int .i64)))],[]⟩)] [] [] [] [] [] func12 h
theorem k_.c{f:Fn}{g i:List PV}(h:
cg u0 54 [.list 2 .nil []] λa r=>
bu prog (.fn f g i) (λu o j=>
∃b v d,u=[.agg [pS b,.list 1 v d]]/\
∃n e,ay j a 0 1=some [.list 2 n e]/\
aW false 2 40 n e [[pS b,.list 1 .sh d]] j λp s=>
stM a 0 [.list 2 p (e++[[pS b,.list 1 .sh d]])] s λt=>
o none t)
(λq k=>
PK q
(∃m l,ay k a 0 1=some [.list 2 m l]/\
K (.list 2 m l) k)
(False)
[])
r):aa prog 13 [.fn f g i] u0 K:=
VC [4] [] [] [(8,[57])] [] [] [] func13 h
theorem kj.c{b:Fn}{d e:List PV}(h:
cg u0 54 [pV none 0 0] λa v=>
bu prog (.fn b d e) (λy q f=>
∃l z m,y=[.agg [pS l,.list 1 z m]]/\
∃n p o,ay f a 0 1=some [pV n p o]/\
gP 2 40 57 n p o (.list 2 .nr [[pS l,.list 1 .sh m]]) f λs u t w=>
stM a 0 [pV s u t] w λx=>
q none x)
(λr g=>
PK r
(∃i k j,ay g a 0 1=some [pV i k j]/\
K (pV i k j) g)
(False)
[])
v):aa prog 13 [.fn b d e] u0 K:=
VC [4] [] [] [(8,[57])] [] [] [3,9,12,13] func13 h
theorem CY.c{a:Option Addr}{b:ByteArray}(h:
K (.fn (.func 43) [] [.bk [pA a] 0,.bk [pS b] 0]) u0):aa prog 14 [pA a,pS b] u0 K:=
VC [] [] [] [] [2,3] [] [] func14 h
theorem rj.c{s t:Fl}{b d:Lq}(h:
ab ((b.length:Int) != (d.length:Int))
(K (pB false) u0)
(ao (α:=Int) (λu a e=>
ab (decide (a<(b.length:Int)))
(0<=a/\∃(f:List PV),(b)[toNat a]?=some f/\
∃l,aE f 0 1=some [pS l]/\
0<=a/\∃(g:List PV),(d)[toNat a]?=some g/\
∃m,aE g 0 1=some [pS m]/\
ab (!aK l m)
(K (pB false) e)
(0<=a/\∃(i:List PV),(b)[toNat a]?=some i/\
∃o n,aE i 1 1=some [.list 1 o n]/\
0<=a/\∃(j:List PV),(d)[toNat a]?=some j/\
∃q p,aE j 1 1=some [.list 1 q p]/\
aa prog 46 [.list 1 o n,.list 1 q p] e λv k=>
∃r,v=(pB r)/\
ab (!r)
(K (pB false) k)
(u (wrap .i64 (a+1)) k)))
(K (pB true) e))
(0) u0)):aa prog 15 [.list 2 s b,.list 2 t d] u0 K:=
VC [] [(4,⟨[(5,.one (.raw (.int .i64)))],[]⟩)] [] [] [] [] [] func15 h
theorem Lt.c{a b:Int}(h:
ab (decide (a<1))
(K (.aA [pA none,pI 1]) u0)
(ab (decide (a>1024))
(K (.aA [pA none,pI 1]) u0)
(ab (decide (b<1))
(K (.aA [pA none,pI 1]) u0)
(ab (decide (b>1024))
(K (.aA [pA none,pI 1]) u0)
(cg u0 126 [pI 0,pB false,pS ⟨#[]⟩,.list 6 .nil [],.list 6 .nil [],pB false,.list 7 .nil [],pV none 0 0,.list 1 .nil [],.list 2 .nr [[.list 1 .sh [],.list 4 .sh []]],.list 1 .nil [],pI 0,.list 2 .nil [],.list 1 .nil []] λi k=>
aa prog 47 [] k λq l=>
∃d,q=(pA d)/\
aa prog 48 [.list 12 .nil []] l λr m=>
∃e,r=(pA e)/\
aa prog 49 [] m λs n=>
∃f,s=(pA f)/\
aa prog 50 [] n λt o=>
∃g,t=(pA g)/\
cg o 116 [pI a,pI b,pP i 0,pA d,pA e,pA f,pA g] λj p=>
K (.aA [pP j 0,pI 0]) p))))):aa prog 16 [pI a,pI b] u0 K:=
VC [] [] [] [] [] [] [2025007] func16 h
theorem mY.c{n:Fl}{d:Lq}{b e:Int}(h:
ab (decide (e>20))
(K (pI (wrap .i64 (b+1))) u0)
(bZ (α:=Int) (λg=>
ao (α:=Int×Int) (λo a f=>
ab (decide (a.2<(d.length:Int)))
(ab (decide (a.1<=b))
(0<=a.2/\∃(i:List PV),(d)[toNat a.2]?=some i/\
∃l k,aE i 6 1=some [.list 7 l k]/\
aa prog 25 [.list 7 l k,pI b,pI (wrap .i64 (e+1))] f λr q=>
∃m,r=(pI m)/\
o ((wrap .i64 (a.1+(wrap .i64 (1+m)))),(wrap .i64 (a.2+1))) q)
(g a.1 f))
(g a.1 f))
(0,0) u0)
(λj p=>
K (pI (if(wrap .i64 (b+1))<j then(wrap .i64 (b+1))else j)) p))):aa prog 25 [.list 7 n d,pI b,pI e] u0 K:=
VC [] [(5,⟨[(7,.one (.raw (.int .i64))),(8,.one (.raw (.int .i64)))],[]⟩)] [(8,⟨[(7,.one (.raw (.int .i64)))],[]⟩)] [] [] [] [] func25 h
theorem iH.c{t:Fl}{d:Lq}(h:
ao (α:=Int) (λu b a=>
ab (decide (b<(d.length:Int)))
(0<=b/\∃(g:List PV),(d)[toNat b]?=some g/\
∃y z l m e n f A p o,aE g 0 7=some [pI y,pB z,pS l,.list 6 m e,.list 6 n f,pB A,.list 7 p o]/\
ab (decide ((((ByteArray.size l:Nat):Int):Int)>100))
(K (pB true) a)
(ab (decide ((e.length:Int)>10))
(K (pB true) a)
(ab (decide ((f.length:Int)>10))
(K (pB true) a)
(aa prog 63 [.list 6 m e] a λv i=>
∃q,v=(pB q)/\
ab q
(K (pB true) i)
(aa prog 63 [.list 6 n f] i λw j=>
∃r,w=(pB r)/\
ab r
(K (pB true) j)
(aa prog 26 [.list 7 p o] j λx k=>
∃s,x=(pB s)/\
ab s
(K (pB true) k)
(u (wrap .i64 (b+1)) k)))))))
(K (pB false) a))
(0) u0):aa prog 26 [.list 7 t d] u0 K:=
VC [4] [(2,⟨[(3,.one (.raw (.int .i64)))],[]⟩)] [] [] [] [] [] func26 h
theorem sq.c{m:Fl}{b:Lq}{e:Int}(h:
ab (decide ((b.length:Int)>e))
(K (pB false) u0)
(ao (α:=Int) (λn a d=>
ab (decide (a<(b.length:Int)))
(0<=a/\∃(f:List PV),(b)[toNat a]?=some f/\
∃j,aE f 1 1=some [pS j]/\
ab (decide ((((ByteArray.size j:Nat):Int):Int)>100))
(K (pB false) d)
(0<=a/\∃(g:List PV),(b)[toNat a]?=some g/\
∃k,aE g 4 1=some [pS k]/\
ab (decide ((((ByteArray.size k:Nat):Int):Int)>100))
(K (pB false) d)
(0<=a/\∃(i:List PV),(b)[toNat a]?=some i/\
∃l,aE i 7 1=some [pS l]/\
ab (decide ((((ByteArray.size l:Nat):Int):Int)>100))
(K (pB false) d)
(n (wrap .i64 (a+1)) d))))
(K (pB true) d))
(0) u0)):aa prog 27 [.list 12 m b,pI e] u0 K:=
VC [] [(4,⟨[(5,.one (.raw (.int .i64)))],[]⟩)] [] [] [] [] [] func27 h
theorem ye.c{a d:ByteArray}{b e:Int}(h:
K (.list 6 .nr [[pI 1,pS a,pI b,pS d,pI e,.list 3 .sh []]]) u0):aa prog 28 [pS a,.agg [pI b,pS d,pI e]] u0 K:=
VC [3] [] [] [] [] [] [] func28 h
theorem zq.c{a:ByteArray}(h:
K (.agg [pI 3,pS a,pI 0]) u0):aa prog 29 [pS a] u0 K:=
VC [2] [] [] [] [] [] [] func29 h
theorem zt.c{a:ByteArray}{b:Int}(h:
K (.agg [pI 1,pS a,pI b]) u0):aa prog 30 [pS a,pI b] u0 K:=
VC [4] [] [] [] [] [] [] func30 h
theorem zr.c{a:Int}(h:
K (.agg [pI 2,pS ⟨#[]⟩,pI a]) u0):aa prog 31 [pI a] u0 K:=
VC [2] [] [] [] [] [] [] func31 h
theorem BZ.c{b:Option Addr}{f:ByteArray}{d3 d4:Fl}{g m:Lq}(h:
aa prog 64 [.agg [pS f,.list 7 .sh g,.list 19 .sh m]] u0 λh8 l=>
∃j9 u,h8=(.aA [pI j9,pI u])/\
ab (u != 0)
(K (pI u) l)
(bZ (α:=Unit) (λE=>
nP b λd5 e9=>
∃v,ay l d5 (e9+6) 1=some [pA v]/\
(aa prog 44 [pA v,pS f] l λh9 h0=>
∃a2 a7 a4 b1 a8 b5 b2 b6,h9=(.aA [.agg [pS a2,.list 7 a7 a4,.list 19 b1 a8,.list 1 b5 b2],pB b6])/\
cg h0 108 [pS ⟨#[]⟩,.list 7 .nil [],.list 19 .nil [],.list 1 .nil []] λd6 h5=>
stM d6 0 [pS a2,.list 7 a7 a4,.list 19 b1 a8,.list 1 b5 b2] h5 λO=>
ab b6
(K (pI 3) O)
(E () O))/\
(cg l 108 [pS ⟨#[]⟩,.list 7 .nil [],.list 19 .nil [],.list 1 .nil []] λd7 h6=>
aa prog 44 [pA v,pS f] h6 λi5 h7=>
∃a3 a6 a5 b0 a9 b4 b3 b7,i5=(.aA [.agg [pS a3,.list 7 a6 a5,.list 19 b0 a9,.list 1 b4 b3],pB b7])/\
stM d7 0 [pS a3,.list 7 a6 a5,.list 19 b0 a9,.list 1 b4 b3] h7 λP=>
ab b7
(K (pI 3) P)
(E () P)))
(λk3 H=>
nP b λd8 f0=>
∃b8,ay H d8 (f0+2) 1=some [pA b8]/\
ao (α:=Option Addr×(Fl×Lq)×Int) (λe8 a d=>
ab (decide (a.2.2<(g.length:Int)))
(0<=a.2.2/\∃(G:List PV),(g)[toNat a.2.2]?=some G/\
∃w x y k0 z k1 A B k2 C,aE G 0 7=some [pI w,pB x,pS y,.list 6 k0 z,.list 6 k1 A,pB B,.list 7 k2 C]/\
aa prog 65 [pA a.1,.agg [pI w,pB x,pS y,.list 6 .sh z,.list 6 .sh A,pB B,.list 7 .sh C]] d λi6 Q=>
∃D,i6=(pA D)/\
bZ (α:=Option Addr) (λF=>
ab (Option.isNone D)
(aa prog 66 [pA b,.agg [pI w,pB x,pS y,.list 6 .sh z,.list 6 .sh A,pB B,.list 7 .sh C]] Q λi7 I=>
∃e,i7=(pA e)/\
nP a.1 λe1 f3=>
∃c0 b9,ay I e1 (f3+9) 1=some [.list 2 c0 b9]/\
aa prog 67 [pA b,pA e,.list 2 c0 b9] I λi8 J=>
∃c2 c1 c4 c3 c5,i8=(.aA [.list 2 c2 c1,.list 1 c4 c3,pB c5])/\
ab (!c5)
(aa prog 68 [pA b,pA e] J λi9 g4=>
 i9=(.aA [])/\
aa prog 69 [pA b,.list 1 a.2.1.1 a.2.1.2] g4 λj0 g5=>
 j0=(.aA [])/\
K (pI 25) g5)
(nP e λe2 f4=>
stM e2 (f4+9) [.list 2 c2 c1] J λg6=>
nP e λe3 f5=>
stM e3 (f5+10) [.list 1 c4 c3] g6 λL=>
nP a.1 λe4 f6=>
∃c6 c8 c7,ay L e4 (f6+7) 1=some [pV c6 c8 c7]/\
gP 1 8 110 c6 c8 c7 (.list 1 .nr [[pA e]]) L λf9 g1 g0 g7=>
nP a.1 λe5 f7=>
stM e5 (f7+7) [pV f9 g1 g0] g7 λg8=>
F e g8))
(F D Q))
(λp g3=>
aW false 1 8 a.2.1.1 a.2.1.2 [[pA p]] g3 λe7 g9=>
e8 (p,(e7,(a.2.1.2++[[pA p]])),(wrap .i64 (a.2.2+1))) g9))
(bZ (α:=Bool) (λi=>
nP a.1 λn o=>
nP b λj k=>
(∃j5 t,ay d n (o+9) 1=some [.list 2 j5 t]/\
(∃T,ay d j (k+1) 1=some [pI T]/\
(aa prog 70 [pA b] d λj1 h1=>
∃c9,j1=(pI c9)/\
i (decide (((wrap .i64 (c9+(t.length:Int))):Int)>T)) h1)/\
True)/\
(aa prog 70 [pA b] d λj2 M=>
∃d0,j2=(pI d0)/\
∃U,ay M j (k+1) 1=some [pI U]/\
i (decide (((wrap .i64 (d0+(t.length:Int))):Int)>U)) M)/\
True)/\
(∃V,ay d j (k+1) 1=some [pI V]/\
(aa prog 70 [pA b] d λi0 N=>
∃d1,i0=(pI d1)/\
∃j3 R,ay N n (o+9) 1=some [.list 2 j3 R]/\
i (decide (((wrap .i64 (d1+(R.length:Int))):Int)>V)) N)/\
True)/\
(aa prog 70 [pA b] d λi1 r=>
∃d2,i1=(pI d2)/\
∃j4 S,ay r n (o+9) 1=some [.list 2 j4 S]/\
∃W,ay r j (k+1) 1=some [pI W]/\
i (decide (((wrap .i64 (d2+(S.length:Int))):Int)>W)) r)/\
True)
(λg2 q=>
ab g2
(aa prog 69 [pA b,.list 1 a.2.1.1 a.2.1.2] q λi2 h2=>
 i2=(.aA [])/\
K (pI 26) h2)
(nP a.1 λe6 f8=>
∃X,ay q e6 (f8+11) 1=some [pI X]/\
nP a.1 λd9 f1=>
stM d9 (f1+11) [pI (wrap .i64 (X+1))] q λs=>
nP b λe0 f2=>
∃Y,ay s e0 (f2+6) 1=some [pA Y]/\
cV prog 62 [.agg [pS f,.list 7 .sh g,.list 19 .sh m]] s λi3 h3=>
∃Z j6 a0 j7 a1,i3=(.agg [pS Z,.list 7 j6 a0,.list 19 j7 a1])/\
aa prog 71 [pA Y,pS f,.agg [pS Z,.list 7 .sh a0,.list 19 .sh a1,.list 1 .sh a.2.1.2]] (Mem.or s h3) λi4 h4=>
∃j8,i4=(pB j8)/\
K (pI 0) h4))))
(b8,(.nil,[]),0) H))):aa prog 32 [pA b,.agg [pS f,.list 7 d3 g,.list 19 d4 m]] u0 K:=
VC [3,12,1000026] [(10,⟨[(9,.one (.raw .ptr)),(10,.one (.list 1)),(43,.one (.raw (.int .i64)))],[]⟩)] [(7,⟨[],[]⟩),(23,⟨[(13,.one (.raw .ptr))],[]⟩),(27,⟨[(110,.one (.raw .bool))],[]⟩)] [] [] [] [85,86,89,91] func32 h
theorem we.c{S:Option Addr}{n9 o0:Fl}{g E:Lq}(h:
cg u0 45 [pA S] λa q4=>
ao (α:=Int×Int) (λo8 e a0=>
ab (decide (e.2<(g.length:Int)))
(0<=e.2/\∃(X:List PV),(g)[toNat e.2]?=some X/\
∃k1 k2 k3 k4 k5 k6 k7 k8 k9 l0 l1 R,aE X 0 12=some [pI k1,pS k2,pI k3,pI k4,pS k5,pI k6,pI k7,pS k8,pI k9,pB l0,pB l1,pI R]/\
aa prog 72 [.agg [pI k1,pS k2,pI k3,pI k4,pS k5,pI k6,pI k7,pS k8,pI k9,pB l0,pB l1,pI R]] a0 λs8 H=>
∃l2,s8=(pB l2)/\
ab (!l2)
(K (pI 9) H)
(ab (decide (R<1))
(K (pI 9) H)
(o8 (e.1,(wrap .i64 (e.2+1))) H)))
(aa prog 48 [.list 12 .nil []] a0 λs9 r5=>
∃j,s9=(pA j)/\
ao (α:=Int×Int) (λo9 f N=>
ab (decide (f.2<(E.length:Int)))
(0<=f.2/\∃(Y:List PV),(E)[toNat f.2]?=some Y/\
∃l3,aE Y 0 1=some [pI l3]/\
∃l4,ay N a 0 1=some [pA l4]/\
aa prog 73 [pA l4,pI l3] N λu1 a8=>
∃l5 l6 l7 l8 l9 m0 m1 m2 m3 m4 m5 m6 m7,u1=(.aA [.agg [pI l5,pS l6,pI l7,pI l8,pS l9,pI m0,pI m1,pS m2,pI m3,pB m4,pB m5,pI m6],pB m7])/\
ab (!m7)
(K (pI 4) a8)
(aa prog 74 [pA j,.agg [pI l5,pS l6,pI l7,pI l8,pS l9,pI m0,pI m1,pS m2,pI m3,pB m4,pB m5,pI m6]] a8 λu5 a9=>
∃m8,u5=(pB m8)/\
ab (!m8)
(K (pI 4) a9)
(o9 (f.1,(wrap .i64 (f.2+1))) a9)))
(aa prog 48 [.list 12 .nil []] N λu6 s6=>
∃k,u6=(pA k)/\
ao (α:=Int×Int) (λT d O=>
ab (decide (d.2<(g.length:Int)))
(0<=d.2/\∃(Z:List PV),(g)[toNat d.2]?=some Z/\
∃s t u v w x y z A B C l,aE Z 0 12=some [pI s,pS t,pI u,pI v,pS w,pI x,pI y,pS z,pI A,pB B,pB C,pI l]/\
∃m9,ay O a 0 1=some [pA m9]/\
aa prog 73 [pA m9,pI l] O λu7 s7=>
∃x3 x4 x5 x6 x7 x8 x9 y0 y1 y2 y3 y4 n0,u7=(.aA [.agg [pI x3,pS x4,pI x5,pI x6,pS x7,pI x8,pI x9,pS y0,pI y1,pB y2,pB y3,pI y4],pB n0])/\
aa prog 75 [pA j,.agg [pI s,pS t,pI u,pI v,pS w,pI x,pI y,pS z,pI A,pB B,pB C,pI l]] s7 λu8 G=>
∃y5 n1,u8=(.aA [pI y5,pB n1])/\
ab n0
(ab (!n1)
(K (pI 3) G)
(aa prog 74 [pA k,.agg [pI s,pS t,pI u,pI v,pS w,pI x,pI y,pS z,pI A,pB B,pB C,pI l]] G λu9 a1=>
∃n2,u9=(pB n2)/\
ab (!n2)
(K (pI 3) a1)
(T (d.1,(wrap .i64 (d.2+1))) a1)))
(aa prog 74 [pA k,.agg [pI s,pS t,pI u,pI v,pS w,pI x,pI y,pS z,pI A,pB B,pB C,pI l]] G λv0 a2=>
∃n3,v0=(pB n3)/\
ab (!n3)
(K (pI 3) a2)
(T (d.1,(wrap .i64 (d.2+1))) a2)))
(aa prog 76 [.list 1 .nil []] O λv1 q5=>
∃b0,v1=(pA b0)/\
cg q5 156 [pA none] λm q6=>
stM m 0 [pA b0] q6 λq7=>
aa prog 77 [pA j] q7 λt0 q8=>
∃b1 b2 b3,t0=(.fn b1 b2 b3)/\
bu prog (.fn b1 b2 b3) (λv2 n4 a3=>
∃b4 b5 b6 b7 b8 b9 c0 c1 c2 c3 c4 c5,v2=[.agg [pI b4,pS b5,pI b6,pI b7,pS b8,pI b9,pI c0,pS c1,pI c2,pB c3,pB c4,pI c5]]/\
∃c6,ay a3 a 0 1=some [pA c6]/\
aa prog 78 [pA c6,.agg [pI b4,pS b5,pI b6,pI b7,pS b8,pI b9,pI c0,pS c1,pI c2,pB c3,pB c4,pI c5]] a3 λt1 r0=>
∃v7 P,t1=(.list 1 v7 P)/\
ao (α:=Int) (λp0 o I=>
ab (decide (o<(P.length:Int)))
(0<=o/\∃(U:List PV),(P)[toNat o]?=some U/\
∃c7,aE U 0 1=some [pI c7]/\
∃c8,ay I m 0 1=some [pA c8]/\
aa prog 79 [pA c8,pI c7] I λt2 r1=>
∃v8,t2=(pB v8)/\
p0 (wrap .i64 (o+1)) r1)
(n4 none I))
(0) r0)
(λp9 q9=>
PK p9
(aa prog 77 [pA k] q9 λt3 r2=>
∃c9 d0 d1,t3=(.fn c9 d0 d1)/\
bu prog (.fn c9 d0 d1) (λv3 n5 a4=>
∃d2 d3 d4 d5 d6 d7 d8 d9 e0 e1 e2 e3,v3=[.agg [pI d2,pS d3,pI d4,pI d5,pS d6,pI d7,pI d8,pS d9,pI e0,pB e1,pB e2,pI e3]]/\
∃e4,ay a4 a 0 1=some [pA e4]/\
aa prog 80 [pA e4,.agg [pI d2,pS d3,pI d4,pI d5,pS d6,pI d7,pI d8,pS d9,pI e0,pB e1,pB e2,pI e3]] a4 λt4 r3=>
∃v9 Q,t4=(.list 1 v9 Q)/\
ao (α:=Int) (λp1 p J=>
ab (decide (p<(Q.length:Int)))
(0<=p/\∃(V:List PV),(Q)[toNat p]?=some V/\
∃e5,aE V 0 1=some [pI e5]/\
∃e6,ay J m 0 1=some [pA e6]/\
aa prog 79 [pA e6,pI e5] J λt5 r4=>
∃w0,t5=(pB w0)/\
p1 (wrap .i64 (p+1)) r4)
(n5 none J))
(0) r3)
(λq0 b=>
PK q0
(bZ (α:=Int) (λD=>
∃e7,ay b a 0 1=some [pA e7]/\
∃e8,ay b a 0 1=some [pA e8]/\
nP e8 λo1 p2=>
∃e9,ay b o1 (p2+2) 1=some [pA e9]/\
∃f0,ay b a 0 1=some [pA f0]/\
nP f0 λo2 p3=>
∃f1,ay b o2 (p3+2) 1=some [pA f1]/\
nP f1 λo3 p4=>
∃f3 f2,ay b o3 (p4+9) 1=some [.list 2 f3 f2]/\
∃f4,ay b m 0 1=some [pA f4]/\
aa prog 81 [pA e7,pA e9,.list 2 f3 f2,pB false,pA f4] b λt6 a5=>
∃f5,t6=(pB f5)/\
ab (!f5)
(D 25 a5)
(cg a5 3 [pI 0] λn r6=>
stM n 0 [pI 0] r6 λL=>
∃f6,ay L a 0 1=some [pA f6]/\
nP f6 λo4 p5=>
∃f7,ay L o4 (p5+6) 1=some [pA f7]/\
aa prog 61 [pA f7] L λt7 r7=>
∃f8 f9 g0,t7=(.fn f8 f9 g0)/\
bu prog (.fn f8 f9 g0) (λv4 n6 M=>
∃w1 w2 w4 w3 w6 w5 w7 r,v4=[pS w1,.agg [pS w2,.list 7 w4 w3,.list 19 w6 w5,.list 1 w7 r]]/\
∃g1,ay M n 0 1=some [pI g1]/\
0<=(wrap .i64 ((r.length:Int)-1))/\∃(W:List PV),(r)[toNat (wrap .i64 ((r.length:Int)-1))]?=some W/\
∃g2,aE W 0 1=some [pA g2]/\
nP g2 λo5 p6=>
∃w8 g3,ay M o5 (p6+12) 1=some [.list 2 w8 g3]/\
stM n 0 [pI (wrap .i64 (g1+(g3.length:Int)))] M λr8=>
n6 none r8)
(λq1 i=>
PK q1
(∃g4,ay i n 0 1=some [pI g4]/\
∃g5,ay i a 0 1=some [pA g5]/\
nP g5 λo6 p7=>
∃g6,ay i o6 (p7+1) 1=some [pI g6]/\
ab (decide (g4>g6))
(D 26 i)
(D 0 i))
(False)
[])
r7))
(λF q=>
ab (F == 0)
(∃g7,ay q a 0 1=some [pA g7]/\
nP g7 λo7 p8=>
∃g8,ay q o7 (p8+2) 1=some [pA g8]/\
aa prog 82 [pA g8] q λt8 r9=>
 t8=(.aA [])/\
K (pI F) r9)
(aa prog 77 [pA k] q λt9 s0=>
∃g9 h0 h1,t9=(.fn g9 h0 h1)/\
bu prog (.fn g9 h0 h1) (λv5 n7 a6=>
∃h2 h3 h4 h5 h6 h7 h8 h9 i0 i1 i2 i3,v5=[.agg [pI h2,pS h3,pI h4,pI h5,pS h6,pI h7,pI h8,pS h9,pI i0,pB i1,pB i2,pI i3]]/\
∃i4,ay a6 a 0 1=some [pA i4]/\
aa prog 78 [pA i4,.agg [pI h2,pS h3,pI h4,pI h5,pS h6,pI h7,pI h8,pS h9,pI i0,pB i1,pB i2,pI i3]] a6 λu2 s2=>
∃x0 w9,u2=(.list 1 x0 w9)/\
n7 none s2)
(λq2 s1=>
PK q2
(aa prog 77 [pA j] s1 λu3 s3=>
∃i5 i6 i7,u3=(.fn i5 i6 i7)/\
bu prog (.fn i5 i6 i7) (λv6 n8 a7=>
∃i8 i9 j0 j1 j2 j3 j4 j5 j6 j7 j8 j9,v6=[.agg [pI i8,pS i9,pI j0,pI j1,pS j2,pI j3,pI j4,pS j5,pI j6,pB j7,pB j8,pI j9]]/\
∃k0,ay a7 a 0 1=some [pA k0]/\
aa prog 80 [pA k0,.agg [pI i8,pS i9,pI j0,pI j1,pS j2,pI j3,pI j4,pS j5,pI j6,pB j7,pB j8,pI j9]] a7 λu4 s5=>
∃x2 x1,u4=(.list 1 x2 x1)/\
n8 none s5)
(λq3 s4=>
PK q3
(K (pI F) s4)
(False)
[])
s3)
(False)
[])
s0)))
(False)
[])
r2)
(False)
[])
q8))
(f.1,0) s6))
(e.1,0) r5))
(0,0) q4):aa prog 33 [pA S,.list 12 n9 g,.list 1 o0 E] u0 K:=
VC [8,12,16,17,22,25,31,32,33] [(2,⟨[(6,.one (.raw (.int .i64))),(36,.one (.raw (.int .i64)))],[]⟩),(9,⟨[(6,.one (.raw (.int .i64))),(52,.one (.raw (.int .i64)))],[]⟩),(17,⟨[(6,.one (.raw (.int .i64))),(74,.one (.raw (.int .i64)))],[]⟩),(28,⟨[(111,.one (.raw (.int .i64)))],[]⟩),(35,⟨[(126,.one (.raw (.int .i64)))],[]⟩)] [(48,⟨[(28,.one (.raw (.int .i64)))],[]⟩)] [(106,[129]),(121,[129]),(154,[118,108]),(186,[129]),(192,[129])] [] [] [] func33 h
theorem BY.c{a:Option Addr}(h:
K (.fn (.func 83) [] [.bk [pA a] 0]) u0):aa prog 34 [pA a] u0 K:=
VC [] [] [] [] [1] [] [] func34 h
theorem si.c{j:ByteArray}{g M:Fl}{f a:Lq}(h:
aa prog 84 [pS j] u0 λO l=>
∃p,O=(pB p)/\
ab (!p)
(K (.aA [pI (-1),pI 2]) l)
(aa prog 37 [.list 7 g f] l λP d=>
∃e,P=(pI e)/\
ab (decide (e<1))
(K (.aA [pI (-1),pI 7]) d)
(ab (decide (e>16))
(K (.aA [pI (-1),pI 7]) d)
(ab (decide ((a.length:Int)<1))
(K (.aA [pI (-1),pI 7]) d)
(ab (decide ((a.length:Int)>16))
(K (.aA [pI (-1),pI 7]) d)
(aa prog 85 [.list 7 g f,pI 0,pI 0] d λQ m=>
∃q i,Q=(.aA [pI q,pI i])/\
ab (i != 0)
(K (.aA [pI q,pI i]) m)
(ao (α:=Int) (λN b n=>
ab (decide (b<(a.length:Int)))
(0<=b/\∃(k:List PV),(a)[toNat b]?=some k/\
∃r s t u v w x y z A B C D E F G H I J,aE k 0 19=some [pS r,pS s,pI t,pS u,pI v,pI w,pS x,pI y,pS z,pI A,pS B,pI C,pS D,pI E,pI F,pS G,pI H,pS I,pI J]/\
aa prog 86 [.agg [pS r,pS s,pI t,pS u,pI v,pI w,pS x,pI y,pS z,pI A,pS B,pI C,pS D,pI E,pI F,pS G,pI H,pS I,pI J]] n λR o=>
∃L,R=(pB L)/\
ab (!L)
(K (.aA [pI (wrap .i64 (e+b)),pI 9]) o)
(N (wrap .i64 (b+1)) o))
(K (.aA [pI (-1),pI 0]) n))
(0) m))))))):aa prog 35 [.agg [pS j,.list 7 g f,.list 19 M a]] u0 K:=
VC [1] [(10,⟨[(7,.one (.raw (.int .i64)))],[]⟩)] [] [] [] [] [] func35 h
theorem kO.c{L j:Fl}{b i:Lq}{g:Int}(h:
ao (α:=Int×(Fl×Lq)×Int) (λM a e=>
ab (decide (a.2.2<(b.length:Int)))
(bZ (α:=(Fl×Lq)) (λd=>
0<=a.2.2/\∃(k:List PV),(b)[toNat a.2.2]?=some k/\
∃r,aE k 0 1=some [pI r]/\
ab (r == 3)
(0<=a.2.2/\∃(l:List PV),(b)[toNat a.2.2]?=some l/\
∃t s,aE l 6 1=some [.list 7 t s]/\
aa prog 36 [.list 7 t s,pI (wrap .i64 (a.1+1)),.list 1 a.2.1.1 a.2.1.2] e λP q=>
∃T S u v,P=(.aA [.list 1 T S,pI u,pB v])/\
ab (!v)
(K (.aA [.list 1 .nil [],pI u,pB false]) q)
(d (a.2.1.1,a.2.1.2) q))
(0<=a.2.2/\∃(m:List PV),(b)[toNat a.2.2]?=some m/\
∃w x y U z V A B W C,aE m 0 7=some [pI w,pB x,pS y,.list 6 U z,.list 6 V A,pB B,.list 7 W C]/\
aa prog 87 [.agg [pI w,pB x,pS y,.list 6 .sh z,.list 6 .sh A,pB B,.list 7 .sh C],.list 1 a.2.1.1 a.2.1.2] e λQ f=>
∃E D F,Q=(.aA [.list 1 E D,pB F])/\
ab (!F)
(K (.aA [.list 1 .nil [],pI a.1,pB false]) f)
(0<=a.2.2/\∃(n:List PV),(b)[toNat a.2.2]?=some n/\
∃G,aE n 0 1=some [pI G]/\
ab (G == 1)
(d (E,D) f)
(d (a.2.1.1,a.2.1.2) f))))
(λp N=>
0<=a.2.2/\∃(o:List PV),(b)[toNat a.2.2]?=some o/\
∃I H,aE o 6 1=some [.list 7 I H]/\
aa prog 37 [.list 7 I H] N λR O=>
∃J,R=(pI J)/\
M ((wrap .i64 (a.1+(wrap .i64 (1+J)))),(p.1,p.2),(wrap .i64 (a.2.2+1))) O))
(K (.aA [.list 1 a.2.1.1 a.2.1.2,pI (-1),pB true]) e))
(g,(j,i),0) u0):aa prog 36 [.list 7 L b,pI g,.list 1 j i] u0 K:=
VC [] [(2,⟨[(1,.one (.raw (.int .i64))),(2,.one (.list 1)),(9,.one (.raw (.int .i64)))],[]⟩)] [(13,⟨[(2,.one (.list 1))],[]⟩)] [] [] [] [] func36 h
theorem ma.c{j:Fl}{b:Lq}(h:
ao (α:=Int×Int) (λk a e=>
ab (decide (a.2<(b.length:Int)))
(0<=a.2/\∃(d:List PV),(b)[toNat a.2]?=some d/\
∃g f,aE d 6 1=some [.list 7 g f]/\
aa prog 37 [.list 7 g f] e λm l=>
∃i,m=(pI i)/\
k ((wrap .i64 (a.1+(wrap .i64 (1+i)))),(wrap .i64 (a.2+1))) l)
(K (pI a.1) e))
(0,0) u0):aa prog 37 [.list 7 j b] u0 K:=
VC [] [(3,⟨[(3,.one (.raw (.int .i64))),(4,.one (.raw (.int .i64)))],[]⟩)] [] [] [] [] [] func37 h
theorem uk.c{a g:ByteArray}{f i:Int}{d:Fl}{b:Lq}(h:
ab (aK a ⟨#[]⟩)
(K (pB true) u0)
(aa prog 88 [.list 1 d b,pS a] u0 λk j=>
∃e,k=(pB e)/\
K (pB e) j)):aa prog 38 [.agg [pS a,pI f,pS g,pI i],.list 1 d b] u0 K:=
VC [2] [] [] [] [] [] [] func38 h
theorem iY.c{u:Fl}{b:Lq}(h:
ao (α:=(Fl×Lq)×Int) (λw a m=>
ab (decide (a.2<(b.length:Int)))
(0<=a.2/\∃(l:List PV),(b)[toNat a.2]?=some l/\
∃n o p A q B r s C t,aE l 0 7=some [pI n,pB o,pS p,.list 6 A q,.list 6 B r,pB s,.list 7 C t]/\
aa prog 89 [.agg [pI n,pB o,pS p,.list 6 .sh q,.list 6 .sh r,pB s,.list 7 .sh t]] m λz x=>
∃d e f D g E i j F k,z=(.agg [pI d,pB e,pS f,.list 6 D g,.list 6 E i,pB j,.list 7 F k])/\
aW false 7 112 a.1.1 a.1.2 [[pI d,pB e,pS f,.list 6 .sh g,.list 6 .sh i,pB j,.list 7 .sh k]] x λv y=>
w ((v,(a.1.2++[[pI d,pB e,pS f,.list 6 .sh g,.list 6 .sh i,pB j,.list 7 .sh k]])),(wrap .i64 (a.2+1))) y)
(K (.list 7 a.1.1 a.1.2) m))
((.nil,[]),0) u0):aa prog 39 [.list 7 u b] u0 K:=
VC [] [(3,⟨[(3,.one (.list 7)),(4,.one (.raw (.int .i64)))],[]⟩)] [] [] [] [] [] func39 h
theorem h_.c{A:Fl}{b:Lq}(h:
ao (α:=(Option Addr×Nat×Nat)×Int) (λB a e=>
ab (decide (a.2<(b.length:Int)))
(0<=a.2/\∃(d:List PV),(b)[toNat a.2]?=some d/\
∃f g i I j J k l L m,aE d 0 7=some [pI f,pB g,pS i,.list 6 I j,.list 6 J k,pB l,.list 7 L m]/\
aa prog 89 [.agg [pI f,pB g,pS i,.list 6 .sh j,.list 6 .sh k,pB l,.list 7 .sh m]] e λH F=>
∃n o p q s r t v u w x z y,H=(.agg [pI n,pB o,pS p,pV q s r,pV t v u,pB w,pV x z y])/\
gP 7 112 84 a.1.1 a.1.2.1 a.1.2.2 (.list 7 .nr [[pI n,pB o,pS p,pV q s r,pV t v u,pB w,pV x z y]]) F λC E D G=>
B ((C,E,D),(wrap .i64 (a.2+1))) G)
(K (pV a.1.1 a.1.2.1 a.1.2.2) e))
((none,0,0),0) u0):aa prog 39 [.list 7 A b] u0 K:=
VC [] [(3,⟨[(3,.one (.raw .slice)),(4,.one (.raw (.int .i64)))],[]⟩)] [] [] [] [] [2,3,11,16,18,19] func39 h
theorem mB.c{b:Fl}{a:Lq}(h:
aW false 19 224 .nil [] a u0 λd e=>
K (.list 19 d ([]++a)) e):aa prog 40 [.list 19 b a] u0 K:=
VC [] [] [] [] [] [] [] func40 h
theorem la.c{b:Fl}{a:Lq}(h:
gP 19 224 43 none 0 0 (.list 19 b a) u0 λd f e g=>
K (pV d f e) g):aa prog 40 [.list 19 b a] u0 K:=
VC [] [] [] [] [] [] [2,4] func40 h
theorem pU.c{b:Option Addr}{d:ByteArray}{S T:Fl}{j k:Lq}(h:
aa prog 8 [.agg [pS d,.list 7 .sh j,.list 19 .sh k]] u0 λe5 A=>
∃f3 v,e5=(.aA [pI f3,pI v])/\
ab (v != 0)
(K (pI v) A)
(aa prog 90 [pA b,pS d] A λe6 B=>
∃f4 I,e6=(.aA [pI f4,pB I])/\
ab I
(K (pI 3) B)
(aa prog 91 [pA b,.agg [pS d,.list 7 .sh j,.list 19 .sh k]] B λe7 G=>
∃f5 r s J,e7=(.aA [.list 3 f5 r,pI s,pB J])/\
ab (!J)
(K (pI 25) G)
(ao (α:=Int×Int) (λb9 l n=>
nP b λU c1=>
∃f6 L,ay n U (c1+4) 1=some [.list 1 f6 L]/\
ab (decide (l.2<(L.length:Int)))
(nP b λV c2=>
∃f7 M,ay n V (c2+4) 1=some [.list 1 f7 M]/\
0<=l.2/\∃(y:List PV),(M)[toNat l.2]?=some y/\
∃f8 N,aE y 0 1=some [.list 3 f8 N]/\
b9 ((wrap .i64 (l.1+(N.length:Int))),(wrap .i64 (l.2+1))) n)
(nP b λa0 c7=>
∃O,ay n a0 (c7+1) 1=some [pI O]/\
ab (decide (l.1>O))
(K (pI 26) n)
(bZ (α:=Int) (λw=>
ao (α:=Int) (λc0 m q=>
nP b λa1 c8=>
∃f9 P,ay q a1 (c8+2) 1=some [.list 3 f9 P]/\
ab (decide (m<(P.length:Int)))
(nP b λa2 c9=>
∃g0 Q,ay q a2 (c9+2) 1=some [.list 3 g0 Q]/\
0<=m/\∃(z:List PV),(Q)[toNat m]?=some z/\
∃R,aE z 0 1=some [pS R]/\
ab (Op.bytesLess (ByteArray.toList R) (ByteArray.toList d))
(c0 (wrap .i64 (m+1)) q)
(w m q))
(w m q))
(0) n)
(λa u=>
bZ (α:=(Fl×Lq)) (λx=>
nP b λa3 d0=>
∃g1 i,ay u a3 (d0+2) 1=some [.list 3 g1 i]/\
(0:Int)<=(0:Int)/\0<=a/\a<=(i.length:Int)/\
(aW true 3 64 .nil [] (drop (toNat (0:Int)) (take (toNat a) i)) u λb7 e2=>
aW false 3 64 b7 ([]++(drop (toNat (0:Int)) (take (toNat a) i))) [[pS d,.list 7 .sh j,.list 19 .sh k]] e2 λa8 e3=>
x (a8,(([]++(drop (toNat (0:Int)) (take (toNat a) i)))++[[pS d,.list 7 .sh j,.list 19 .sh k]])) e3)/\
(aW true 3 64 .nil [] (drop (toNat (0:Int)) (take (toNat a) i)) u λb8 e4=>
aW false 3 64 b8 ([]++(drop (toNat (0:Int)) (take (toNat a) i))) [[pS d,.list 7 .sh j,.list 19 .sh k]] e4 λa9 d5=>
x (a9,(([]++(drop (toNat (0:Int)) (take (toNat a) i)))++[[pS d,.list 7 .sh j,.list 19 .sh k]])) d5))
(λt H=>
nP b λa4 d1=>
∃e8 e,ay H a4 (d1+2) 1=some [.list 3 e8 e]/\
0<=a/\a<=(e.length:Int)/\(e.length:Int)<=(e.length:Int)/\
aW false 3 64 t.1 t.2 (drop (toNat a) (take (toNat (e.length:Int)) e)) H λb0 d6=>
nP b λa5 d2=>
stM a5 (d2+2) [.list 3 b0 (t.2++(drop (toNat a) (take (toNat (e.length:Int)) e)))] d6 λC=>
nP b λa6 d3=>
∃e9 o,ay C a6 (d3+4) 1=some [.list 1 e9 o]/\
(0:Int)<=(0:Int)/\0<=a/\a<=(o.length:Int)/\
aW false 1 24 .nil [] (drop (toNat (0:Int)) (take (toNat a) o)) C λb1 d7=>
aW false 1 24 b1 ([]++(drop (toNat (0:Int)) (take (toNat a) o))) [[.list 3 .sh r]] d7 λb2 D=>
nP b λa7 d4=>
∃f0 f,ay D a7 (d4+4) 1=some [.list 1 f0 f]/\
0<=a/\a<=(f.length:Int)/\(f.length:Int)<=(f.length:Int)/\
aW false 1 24 b2 (([]++(drop (toNat (0:Int)) (take (toNat a) o)))++[[.list 3 .sh r]]) (drop (toNat a) (take (toNat (f.length:Int)) f)) D λb3 d8=>
nP b λW c3=>
stM W (c3+4) [.list 1 b3 ((([]++(drop (toNat (0:Int)) (take (toNat a) o)))++[[.list 3 .sh r]])++(drop (toNat a) (take (toNat (f.length:Int)) f)))] d8 λE=>
nP b λX c4=>
∃f1 p,ay E X (c4+5) 1=some [.list 1 f1 p]/\
(0:Int)<=(0:Int)/\0<=a/\a<=(p.length:Int)/\
aW false 1 8 .nil [] (drop (toNat (0:Int)) (take (toNat a) p)) E λb4 d9=>
aW false 1 8 b4 ([]++(drop (toNat (0:Int)) (take (toNat a) p))) [[pI s]] d9 λb5 F=>
nP b λY c5=>
∃f2 g,ay F Y (c5+5) 1=some [.list 1 f2 g]/\
0<=a/\a<=(g.length:Int)/\(g.length:Int)<=(g.length:Int)/\
aW false 1 8 b5 (([]++(drop (toNat (0:Int)) (take (toNat a) p)))++[[pI s]]) (drop (toNat a) (take (toNat (g.length:Int)) g)) F λb6 e0=>
nP b λZ c6=>
stM Z (c6+5) [.list 1 b6 ((([]++(drop (toNat (0:Int)) (take (toNat a) p)))++[[pI s]])++(drop (toNat a) (take (toNat (g.length:Int)) g)))] e0 λe1=>
K (pI 0) e1)))))
((r.length:Int),0) G)))):aa prog 41 [pA b,.agg [pS d,.list 7 S j,.list 19 T k]] u0 K:=
VC [3] [(12,⟨[(12,.one (.raw (.int .i64))),(13,.one (.raw (.int .i64)))],[]⟩),(18,⟨[(14,.one (.raw (.int .i64)))],[]⟩)] [(20,⟨[(14,.one (.raw (.int .i64)))],[]⟩),(21,⟨[(15,.one (.list 3))],[]⟩)] [] [] [] [] func41 h
theorem ri.c{g:Option Addr}{c2 c3:Fl}{e l:Lq}(h:
ao (α:=Int) (λc9 f m=>
ab (decide (f<(e.length:Int)))
(0<=f/\∃(S:List PV),(e)[toNat f]?=some S/\
∃a2 a3 a4 a5 a6 a7 a8 a9 b0 b1 b2 b3,aE S 0 12=some [pI a2,pS a3,pI a4,pI a5,pS a6,pI a7,pI a8,pS a9,pI b0,pB b1,pB b2,pI b3]/\
aa prog 92 [.agg [pI a2,pS a3,pI a4,pI a5,pS a6,pI a7,pI a8,pS a9,pI b0,pB b1,pB b2,pI b3]] m λe1 n=>
∃b4,e1=(pB b4)/\
ab (!b4)
(K (pI 9) n)
(0<=f/\∃(T:List PV),(e)[toNat f]?=some T/\
∃b5,aE T 11 1=some [pI b5]/\
ab (decide (b5<1))
(K (pI 9) n)
(c9 (wrap .i64 (f+1)) n)))
(nP g λc4 d3=>
∃C B,ay m c4 (d3+3) 1=some [.list 12 C B]/\
ao (α:=(Fl×Lq)×Int) (λd0 d a0=>
ab (decide (d.2<(l.length:Int)))
(ao (α:=(Fl×Lq)×Int) (λQ a j=>
ab (decide (a.2<((List.length d.1.2:Nat):Int)))
(0<=a.2/\∃(U:List PV),(d.1.2)[toNat a.2]?=some U/\
∃b6,aE U 11 1=some [pI b6]/\
0<=d.2/\∃(V:List PV),(l)[toNat d.2]?=some V/\
∃b7,aE V 0 1=some [pI b7]/\
ab (b6 != b7)
(0<=a.2/\∃(W:List PV),(d.1.2)[toNat a.2]?=some W/\
∃D E F G H I J L M N O P,aE W 0 12=some [pI D,pS E,pI F,pI G,pS H,pI I,pI J,pS L,pI M,pB N,pB O,pI P]/\
aW false 12 112 a.1.1 a.1.2 [[pI D,pS E,pI F,pI G,pS H,pI I,pI J,pS L,pI M,pB N,pB O,pI P]] j λc8 d7=>
Q ((c8,(a.1.2++[[pI D,pS E,pI F,pI G,pS H,pI I,pI J,pS L,pI M,pB N,pB O,pI P]])),(wrap .i64 (a.2+1))) d7)
(Q ((a.1.1,a.1.2),(wrap .i64 (a.2+1))) j))
(ab (((List.length a.1.2:Nat):Int) == ((List.length d.1.2:Nat):Int))
(K (pI 4) j)
(d0 ((a.1.1,a.1.2),(wrap .i64 (d.2+1))) j)))
((.nil,[]),0) a0)
(aa prog 57 [.list 12 d.1.1 d.1.2] a0 λe2 d8=>
∃b9 b8,e2=(.list 12 b9 b8)/\
ao (α:=(Fl×Lq)×Int) (λd1 b a1=>
ab (decide (b.2<(e.length:Int)))
(ao (α:=Int) (λd2 i o=>
ab (decide (i<((List.length b.1.2:Nat):Int)))
(0<=i/\∃(X:List PV),(b.1.2)[toNat i]?=some X/\
∃c0,aE X 11 1=some [pI c0]/\
0<=b.2/\∃(Y:List PV),(e)[toNat b.2]?=some Y/\
∃c1,aE Y 11 1=some [pI c1]/\
ab (c0 == c1)
(K (pI 3) o)
(d2 (wrap .i64 (i+1)) o))
(0<=b.2/\∃(R:List PV),(e)[toNat b.2]?=some R/\
∃p q r s t u v w x y z A,aE R 0 12=some [pI p,pS q,pI r,pI s,pS t,pI u,pI v,pS w,pI x,pB y,pB z,pI A]/\
aW false 12 112 b.1.1 b.1.2 [[pI p,pS q,pI r,pI s,pS t,pI u,pI v,pS w,pI x,pB y,pB z,pI A]] o λc7 d9=>
d1 ((c7,(b.1.2++[[pI p,pS q,pI r,pI s,pS t,pI u,pI v,pS w,pI x,pB y,pB z,pI A]])),(wrap .i64 (b.2+1))) d9))
(0) a1)
(nP g λc5 d4=>
stM c5 (d4+3) [.list 12 b.1.1 b.1.2] a1 λe0=>
aa prog 93 [pA g] e0 λe3 Z=>
∃k,e3=(pI k)/\
ab (k != 0)
(nP g λc6 d5=>
stM c6 (d5+3) [.list 12 C B] Z λd6=>
K (pI k) d6)
(K (pI k) Z)))
((b9,b8),0) d8))
((C,B),0) m))
(0) u0):aa prog 42 [pA g,.list 12 c2 e,.list 1 c3 l] u0 K:=
VC [] [(2,⟨[(7,.one (.raw (.int .i64)))],[]⟩),(9,⟨[(9,.one (.list 12)),(10,.one (.raw (.int .i64)))],[]⟩),(13,⟨[(11,.one (.list 12)),(12,.one (.raw (.int .i64)))],[]⟩),(22,⟨[(9,.one (.list 12)),(13,.one (.raw (.int .i64)))],[]⟩),(25,⟨[(14,.one (.raw (.int .i64)))],[]⟩)] [] [] [] [] [] func42 h
theorem zp.c{j:Fn}{k l o b:List PV}(h:
bZ (α:=Option Addr×Bool) (λi=>
∃S,aE o 0 1=some [pA S]/\
nP S λT W=>
∃e,ay u0 T (W+6) 1=some [pA e]/\
∃f,aE b 0 1=some [pS f]/\
(aa prog 44 [pA e,pS f] u0 λa5 Y=>
∃t y v C z G D H,a5=(.aA [.agg [pS t,.list 7 y v,.list 19 C z,.list 1 G D],pB H])/\
cg Y 108 [pS ⟨#[]⟩,.list 7 .nil [],.list 19 .nil [],.list 1 .nil []] λm Z=>
stM m 0 [pS t,.list 7 y v,.list 19 C z,.list 1 G D] Z λa0=>
i ((some ⟨m,0,none⟩),H) a0)/\
(cg u0 108 [pS ⟨#[]⟩,.list 7 .nil [],.list 19 .nil [],.list 1 .nil []] λn a1=>
aa prog 44 [pA e,pS f] a1 λa6 a2=>
∃u x w B A F E I,a6=(.aA [.agg [pS u,.list 7 x w,.list 19 B A,.list 1 F E],pB I])/\
stM n 0 [pS u,.list 7 x w,.list 19 B A,.list 1 F E] a2 λa3=>
i ((some ⟨n,0,none⟩),I) a3))
(λq d=>
ab (!q.2)
(K (.aA []) d)
(∃J,aE b 0 1=some [pS J]/\
aU (pA q.1) λU X=>
∃L a9 M b0 N b1 O,ay d U X 4=some [pS L,.list 7 a9 M,.list 19 b0 N,.list 1 b1 O]/\
aa prog 45 [pS J,.agg [pS L,.list 7 .sh M,.list 19 .sh N,.list 1 .sh O]] d λa7 a4=>
∃b2 g,a7=(.list 2 b2 g)/\
ao (α:=Int) (λV a r=>
ab (decide (a<(g.length:Int)))
(0<=a/\∃(p:List PV),(g)[toNat a]?=some p/\
∃P b3 Q,aE p 0 2=some [pS P,.list 1 b3 Q]/\
bJ prog (.fn j k l) [.agg [pS P,.list 1 .sh Q]] r λa8 s=>
∃R,a8=(pB R)/\
ab (!R)
(K (.aA []) s)
(V (wrap .i64 (a+1)) s))
(K (.aA []) r))
(0) a4))):aa prog 43 [.fn j k l,.bk o 0,.bk b 0] u0 K:=
VC [7] [(3,⟨[(23,.one (.raw (.int .i64)))],[]⟩)] [(1,⟨[(4,.one (.raw .ptr)),(5,.one (.raw .bool))],[]⟩)] [] [] [] [] func43 h
theorem Ps.c{i x:ByteArray}{z B C:Fl}{y A a:Lq}(h:
cg u0 9 [pS i] λE k=>
0<=(wrap .i64 ((a.length:Int)-1))/\∃(j:List PV),(a)[toNat (wrap .i64 ((a.length:Int)-1))]?=some j/\
∃m,aE j 0 1=some [pA m]/\
nP m λD G=>
∃o n,ay k D (G+9) 1=some [.list 2 o n]/\
aa prog 96 [.list 2 o n] k λP I=>
∃p,P=(pA p)/\
cg I 54 [.list 2 .nil []] λd J=>
aa prog 97 [pA p] J λQ L=>
∃q r s,Q=(.fn q r s)/\
bu prog (.fn q r s) (λR w e=>
∃S b U T,R=[.agg [.list 1 S b,.list 4 U T]]/\
∃t f,ay e d 0 1=some [.list 2 t f]/\
∃g,ay e E 0 1=some [pS g]/\
aW true 1 8 .nil [] b e λV M=>
aW false 2 40 t f [[pS g,.list 1 .sh ([]++b)]] M λF N=>
stM d 0 [.list 2 F (f++[[pS g,.list 1 .sh ([]++b)]])] N λO=>
w none O)
(λH l=>
PK H
(∃v u,ay l d 0 1=some [.list 2 v u]/\
K (.list 2 v u) l)
(False)
[])
L):aa prog 45 [pS i,.agg [pS x,.list 7 z y,.list 19 B A,.list 1 C a]] u0 K:=
VC [3,7] [] [] [(22,[123])] [] [] [] func45 h
theorem wu.c{k l:Fl}{b d:Lq}(h:
ab ((b.length:Int) != (d.length:Int))
(K (pB false) u0)
(ao (α:=Int) (λm a e=>
ab (decide (a<(b.length:Int)))
(0<=a/\∃(f:List PV),(b)[toNat a]?=some f/\
∃i,aE f 0 1=some [pI i]/\
0<=a/\∃(g:List PV),(d)[toNat a]?=some g/\
∃j,aE g 0 1=some [pI j]/\
ab (i != j)
(K (pB false) e)
(m (wrap .i64 (a+1)) e))
(K (pB true) e))
(0) u0)):aa prog 46 [.list 1 k b,.list 1 l d] u0 K:=
VC [] [(4,⟨[(5,.one (.raw (.int .i64)))],[]⟩)] [] [] [] [] [] func46 h
theorem Je.c(h:
aa prog 98 [] u0 λi e=>
∃a,i=(pA a)/\
aa prog 99 [] e λj f=>
∃b,j=(pA b)/\
cg f 198 [pA a,pA b] λd g=>
K (pP d 0) g):aa prog 47 [] u0 K:=
VC [] [] [] [] [] [] [] func47 h
theorem mf.c{b:Fl}{a:Lq}(h:
aW false 12 112 .nil [] a u0 λd e=>
K (.list 12 d ([]++a)) e):aa prog 57 [.list 12 b a] u0 K:=
VC [] [] [] [] [] [] [] func57 h
theorem ib.c{a:Option Addr}(h:
K (.fn (.func 107) [] [.bk [pA a] 0]) u0):aa prog 61 [pA a] u0 K:=
VC [] [] [] [] [1] [] [] func61 h
theorem Jc.c{b:ByteArray}{e i:Fl}{d a:Lq}(h:
cV prog 109 [.list 7 e d] u0 λm k=>
∃g f,m=(.list 7 g f)/\
aW true 19 224 .nil [] a (Mem.or u0 k) λj l=>
K (.agg [pS b,.list 7 g f,.list 19 j ([]++a)]) l):aa prog 62 [.agg [pS b,.list 7 e d,.list 19 i a]] u0 K:=
VC [1,2] [] [] [] [] [] [] func62 h
theorem nZ.c{l:Fl}{b:Lq}(h:
ao (α:=Int) (λm a d=>
ab (decide (a<(b.length:Int)))
(0<=a/\∃(e:List PV),(b)[toNat a]?=some e/\
∃n i,aE e 5 1=some [.list 3 n i]/\
ab (decide ((i.length:Int)>20))
(K (pB true) d)
(0<=a/\∃(f:List PV),(b)[toNat a]?=some f/\
∃j,aE f 1 1=some [pS j]/\
ab (decide ((((ByteArray.size j:Nat):Int):Int)>100))
(K (pB true) d)
(0<=a/\∃(g:List PV),(b)[toNat a]?=some g/\
∃k,aE g 3 1=some [pS k]/\
ab (decide ((((ByteArray.size k:Nat):Int):Int)>100))
(K (pB true) d)
(m (wrap .i64 (a+1)) d))))
(K (pB false) d))
(0) u0):aa prog 63 [.list 6 l b] u0 K:=
VC [] [(2,⟨[(3,.one (.raw (.int .i64)))],[]⟩)] [] [] [] [] [] func63 h
theorem CW.c{a:ByteArray}{g i:Fl}{b d:Lq}(h:
aa prog 110 [.agg [pS a,.list 7 .sh b,.list 19 .sh d]] u0 λk j=>
∃e f m l,k=(.aA [pI e,pI f,.list 1 m l])/\
K (.aA [pI e,pI f]) j):aa prog 64 [.agg [pS a,.list 7 g b,.list 19 i d]] u0 K:=
VC [1] [] [] [] [] [] [] func64 h
theorem Ls.c{f:Option Addr}{g:Int}{i m:Bool}{j:ByteArray}{y z A:Fl}{k l n:Lq}(h:
nP f λB F=>
∃p d J,ay u0 B (F+7) 1=some [pV p d J]/\
ao (α:=Int) (λE a b=>
ab (decide (a<((d:Nat):Int)))
(bH p λC G=>
0<=a/\a<((d:Nat):Int)/\
∃e,ay b C (G+toNat a*1) 1=some [pA e]/\
nP e λD H=>
∃q r s L t M u v N w,ay b D H 7=some [pI q,pB r,pS s,.list 6 L t,.list 6 M u,pB v,.list 7 N w]/\
aa prog 111 [.agg [pI q,pB r,pS s,.list 6 .sh t,.list 6 .sh u,pB v,.list 7 .sh w],.agg [pI g,pB i,pS j,.list 6 .sh k,.list 6 .sh l,pB m,.list 7 .sh n]] b λI o=>
∃x,I=(pB x)/\
ab x
(K (pA e) o)
(E (wrap .i64 (a+1)) o))
(K (pA none) b))
(0) u0):aa prog 65 [pA f,.agg [pI g,pB i,pS j,.list 6 y k,.list 6 z l,pB m,.list 7 A n]] u0 K:=
VC [3] [(2,⟨[(12,.one (.raw (.int .i64)))],[]⟩)] [] [] [] [] [9,10] func65 h
theorem zk.c{R:Option Addr}{x:Int}{y C:Bool}{z:ByteArray}{d3 d4 d5:Fl}{A B D:Lq}(h:
cg u0 45 [pA R] λd8 i0=>
aa prog 112 [.agg [pI x,pB y,pS z,.list 6 .sh A,.list 6 .sh B,pB C,.list 7 .sh D]] i0 λk5 i1=>
∃c3 c4 c5 c7 c6 c9 c8 d0 d2 d1,k5=(.agg [pI c3,pB c4,pS c5,.list 6 c7 c6,.list 6 c9 c8,pB d0,.list 7 d2 d1])/\
cg i1 126 [pI c3,pB c4,pS c5,.list 6 c7 c6,.list 6 c9 c8,pB d0,.list 7 d2 d1,pV none 0 0,.list 1 .nil [],.list 2 .nil [],.list 1 .nil [],pI 0,.list 2 .nil [],.list 1 .nil []] λd7 i9=>
cg i9 110 [pA none] λb j6=>
stM b 0 [pP d7 0] j6 λk1=>
aa prog 113 [.list 7 .nr [[pI x,pB y,pS z,.list 6 .sh A,.list 6 .sh B,pB C,.list 7 .sh D]]] k1 λk6 k2=>
∃a2 a3 a4,k6=(.fn a2 a3 a4)/\
bu prog (.fn a2 a3 a4) (λl3 d a=>
∃l4 e f g l5 i l6 j k l7 l,l3=[pI l4,.agg [pI e,pB f,pS g,.list 6 l5 i,.list 6 l6 j,pB k,.list 7 l7 l]]/\
ab (e == 3)
(∃a7,ay a b 0 1=some [pA a7]/\
nP a7 λd6 g4=>
∃G o,ay a d6 (g4+8) 1=some [.list 1 G o]/\
(∃a5,ay a b 0 1=some [pA a5]/\
((aW false 1 8 G o [[pI (-1)]] a λf3 k3=>
nP a5 λd9 g5=>
(stM d9 (g5+8) [.list 1 f3 (o++[[pI (-1)]])] k3 λk4=>
d none k4)/\
True)/\
True)/\
True)/\
((aW false 1 8 G o [[pI (-1)]] a λf4 W=>
∃a6,ay W b 0 1=some [pA a6]/\
nP a6 λe7 h3=>
(stM e7 (h3+8) [.list 1 f4 (o++[[pI (-1)]])] W λi2=>
d none i2)/\
True)/\
True)/\
True)
(∃c1,ay a d8 0 1=some [pA c1]/\
nP c1 λe8 h4=>
∃m,ay a e8 (h4+3) 1=some [pA m]/\
(∃w,ay a b 0 1=some [pA w]/\
(∃b4,ay a b 0 1=some [pA b4]/\
nP b4 λS U=>
(∃c0 H,ay a S (U+8) 1=some [.list 1 c0 H]/\
(aa prog 114 [pA m,.agg [pI e,pB f,pS g,.list 6 .sh i,.list 6 .sh j,pB k,.list 7 .sh l]] a λk7 i3=>
∃O,k7=(pI O)/\
((aW false 1 8 c0 H [[pI O]] i3 λf5 i4=>
nP w λe9 h5=>
(stM e9 (h5+8) [.list 1 f5 (H++[[pI O]])] i4 λi5=>
d none i5)/\
True)/\
True)/\
True)/\
True)/\
(aa prog 114 [pA m,.agg [pI e,pB f,pS g,.list 6 .sh i,.list 6 .sh j,pB k,.list 7 .sh l]] a λk8 X=>
∃P,k8=(pI P)/\
∃b8 I,ay X S (U+8) 1=some [.list 1 b8 I]/\
((aW false 1 8 b8 I [[pI P]] X λf6 i6=>
nP w λf0 h6=>
(stM f0 (h6+8) [.list 1 f6 (I++[[pI P]])] i6 λi7=>
d none i7)/\
True)/\
True)/\
True)/\
True)/\
(aa prog 114 [pA m,.agg [pI e,pB f,pS g,.list 6 .sh i,.list 6 .sh j,pB k,.list 7 .sh l]] a λk9 E=>
∃Q,k9=(pI Q)/\
∃b5,ay E b 0 1=some [pA b5]/\
nP b5 λf1 h7=>
∃b9 J,ay E f1 (h7+8) 1=some [.list 1 b9 J]/\
((aW false 1 8 b9 J [[pI Q]] E λf7 i8=>
nP w λf2 h8=>
(stM f2 (h8+8) [.list 1 f7 (J++[[pI Q]])] i8 λj0=>
d none j0)/\
True)/\
True)/\
True)/\
True)/\
(∃b6,ay a b 0 1=some [pA b6]/\
nP b6 λT V=>
(∃L p,ay a T (V+8) 1=some [.list 1 L p]/\
(aa prog 114 [pA m,.agg [pI e,pB f,pS g,.list 6 .sh i,.list 6 .sh j,pB k,.list 7 .sh l]] a λl0 F=>
∃s,l0=(pI s)/\
(∃a8,ay F b 0 1=some [pA a8]/\
((aW false 1 8 L p [[pI s]] F λf8 j1=>
nP a8 λe0 g6=>
(stM e0 (g6+8) [.list 1 f8 (p++[[pI s]])] j1 λj2=>
d none j2)/\
True)/\
True)/\
True)/\
((aW false 1 8 L p [[pI s]] F λf9 Y=>
∃a9,ay Y b 0 1=some [pA a9]/\
nP a9 λe1 g7=>
(stM e1 (g7+8) [.list 1 f9 (p++[[pI s]])] Y λj3=>
d none j3)/\
True)/\
True)/\
True)/\
True)/\
(aa prog 114 [pA m,.agg [pI e,pB f,pS g,.list 6 .sh i,.list 6 .sh j,pB k,.list 7 .sh l]] a λl1 v=>
∃t,l1=(pI t)/\
∃M q,ay v T (V+8) 1=some [.list 1 M q]/\
(∃b0,ay v b 0 1=some [pA b0]/\
((aW false 1 8 M q [[pI t]] v λg0 j4=>
nP b0 λe2 g8=>
(stM e2 (g8+8) [.list 1 g0 (q++[[pI t]])] j4 λj5=>
d none j5)/\
True)/\
True)/\
True)/\
((aW false 1 8 M q [[pI t]] v λg1 Z=>
∃b1,ay Z b 0 1=some [pA b1]/\
nP b1 λe3 g9=>
(stM e3 (g9+8) [.list 1 g1 (q++[[pI t]])] Z λj7=>
d none j7)/\
True)/\
True)/\
True)/\
True)/\
(aa prog 114 [pA m,.agg [pI e,pB f,pS g,.list 6 .sh i,.list 6 .sh j,pB k,.list 7 .sh l]] a λl2 n=>
∃u,l2=(pI u)/\
∃b7,ay n b 0 1=some [pA b7]/\
nP b7 λe4 h0=>
∃N r,ay n e4 (h0+8) 1=some [.list 1 N r]/\
(∃b2,ay n b 0 1=some [pA b2]/\
((aW false 1 8 N r [[pI u]] n λg2 j8=>
nP b2 λe5 h1=>
(stM e5 (h1+8) [.list 1 g2 (r++[[pI u]])] j8 λj9=>
d none j9)/\
True)/\
True)/\
True)/\
((aW false 1 8 N r [[pI u]] n λg3 a0=>
∃b3,ay a0 b 0 1=some [pA b3]/\
nP b3 λe6 h2=>
(stM e6 (h2+8) [.list 1 g3 (r++[[pI u]])] a0 λk0=>
d none k0)/\
True)/\
True)/\
True)/\
True))
(λh9 a1=>
PK h9
(∃c2,ay a1 b 0 1=some [pA c2]/\
K (pA c2) a1)
(False)
[])
k2):aa prog 66 [pA R,.agg [pI x,pB y,pS z,.list 6 d3 A,.list 6 d4 B,pB C,.list 7 d5 D]] u0 K:=
VC [3,7,1000005,1000006] [] [] [(15,[3,84])] [] [] [2011007] func66 h
theorem wc.c{o g:Option Addr}{i7:Fl}{E:Lq}(h:
cg u0 124 [.list 2 .nil []] λd l8=>
cg l8 51 [pV none 0 0] λe l9=>
cg l9 4 [pB false] λf m=>
bZ (α:=Option Addr) (λD=>
nP g λi8 k5=>
∃B A,ay m i8 (k5+8) 1=some [.list 1 B A]/\
nP g λj2 k6=>
∃p2 a,ay m j2 (k6+8) 1=some [.list 1 p2 a]/\
(0<=(a.length:Int)/\(a.length:Int)<=(a.length:Int)/\(a.length:Int)<(4611686018427387904:Int)/\toNat (a.length:Int)*8<=140737488355328/\
∀(zN:Nat),m zN=none->
(cg (Mem.set m zN (some (.cells 3 (flatten (replicate (toNat (a.length:Int)) [pI 0]))))) 226 [pA o,.list 1 B A,pV (some ⟨zN,0,none⟩) (toNat (a.length:Int)) (toNat (a.length:Int))] λi9 o0=>
cg o0 224 [pA none] λO o2=>
stM O 0 [pP i9 0] o2 λo3=>
D (some ⟨O,0,none⟩) o3)/\
(cg (Mem.set m zN (some (.cells 3 (flatten (replicate (toNat (a.length:Int)) [pI 0]))))) 224 [pA none] λP o4=>
cg o4 226 [pA o,.list 1 B A,pV (some ⟨zN,0,none⟩) (toNat (a.length:Int)) (toNat (a.length:Int))] λj0 o5=>
stM P 0 [pP j0 0] o5 λo6=>
D (some ⟨P,0,none⟩) o6))/\
(cg m 224 [pA none] λQ c5=>
0<=(a.length:Int)/\(a.length:Int)<=(a.length:Int)/\(a.length:Int)<(4611686018427387904:Int)/\toNat (a.length:Int)*8<=140737488355328/\
∀(Tz:Nat),c5 Tz=none->
cg (Mem.set c5 Tz (some (.cells 3 (flatten (replicate (toNat (a.length:Int)) [pI 0]))))) 226 [pA o,.list 1 B A,pV (some ⟨Tz,0,none⟩) (toNat (a.length:Int)) (toNat (a.length:Int))] λj1 m0=>
stM Q 0 [pP j1 0] m0 λm1=>
D (some ⟨Q,0,none⟩) m1))
(λt n3=>
cg n3 124 [.list 2 .nil []] λp m2=>
ao (α:=Int) (λF l j=>
ab (decide (l<(E.length:Int)))
(0<=l/\∃(c3:List PV),(E)[toNat l]?=some c3/\
∃e0 d9 e2 e1,aE c3 0 2=some [.list 1 e0 d9,.list 4 e2 e1]/\
cg j 123 [.list 1 .nil [],.list 4 .nil []] λi m3=>
stM i 0 [.list 1 e0 d9,.list 4 e2 e1] m3 λb=>
nP g λj5 k9=>
∃e3,ay b j5 k9 1=some [pI e3]/\
ab (e3 == 1)
(nP g λj6 l0=>
∃f7 f8 f9 p9 g0 q0 g1 g2 q1 g3,ay b j6 l0 7=some [pI f7,pB f8,pS f9,.list 6 p9 g0,.list 6 q0 g1,pB g2,.list 7 q1 g3]/\
nP g λj7 l1=>
∃g4 g5 g6 q2 g7 q3 g8 g9 q4 h0,ay b j7 l1 7=some [pI g4,pB g5,pS g6,.list 6 q2 g7,.list 6 q3 g8,pB g9,.list 7 q4 h0]/\
∃h2 h1,ay b i 1 1=some [.list 4 h2 h1]/\
nP g λj8 l2=>
∃q5 h3,ay b j8 (l2+8) 1=some [.list 1 q5 h3]/\
(0:Int)<=0/\∃(c4:List PV),(h3)[toNat 0]?=some c4/\
∃h4,aE c4 0 1=some [pI h4]/\
∃h9 h8,ay b i 1 1=some [.list 4 h9 h8]/\
cV prog 116 [pA o,.agg [pI g4,pB g5,pS g6,.list 6 .sh g7,.list 6 .sh g8,pB g9,.list 7 .sh h0],.list 4 h2 h1,pI h4] b λo7 m4=>
∃h5 h6 h7,o7=(.fn h5 h6 h7)/\
aa prog 115 [.agg [pI f7,pB f8,pS f9,.list 6 .sh g0,.list 6 .sh g1,pB g2,.list 7 .sh g3],.fn h5 h6 h7,.list 4 h9 h8] (Mem.or b m4) λo8 m5=>
∃i0 i1 i2,o8=(.fn i0 i1 i2)/\
bu prog (.fn i0 i1 i2) (λp1 N c6=>
∃q6 q7 q8 q9 r0 r1 r2 r3 r4 r5 r6 C r7 L,p1=[.agg [pI q6,pS q7,pI q8,pI q9,pS r0,pI r1,pI r2,pS r3,pI r4,pB r5,pB r6,pI C],.list 4 r7 L]/\
aU (pA t) λj9 l3=>
∃i3,ay c6 j9 l3 1=some [pA i3]/\
aa prog 117 [pA i3,pI 0,pI 1] c6 λo9 n=>
∃i4,o9=(pB i4)/\
ab (!i4)
(stM d 0 [.list 2 .nil []] n λm6=>
stM e 0 [pV none 0 0] m6 λm7=>
stM f 0 [pB false] m7 λm8=>
N (some .ret) m8)
(∃i5 M,ay n p 0 1=some [.list 2 i5 M]/\
∃r8 s,ay n i 0 1=some [.list 1 r8 s]/\
∃r9 k,ay n i 0 1=some [.list 1 r9 k]/\
∃s0 i6,ay n i 0 1=some [.list 1 s0 i6]/\
(0:Int)<=(0:Int)/\0<=(k.length:Int)/\(k.length:Int)<=(s.length:Int)/\(i6.length:Int)=(k.length:Int)/\
aW true 1 8 .nr (drop (toNat (0:Int)) (take (toNat (k.length:Int)) s)) [[pI C]] n λs1 m9=>
aW false 2 48 i5 M [[.list 1 .sh ((drop (toNat (0:Int)) (take (toNat (k.length:Int)) s))++[[pI C]]),.list 4 .sh L]] m9 λk3 n0=>
stM p 0 [.list 2 k3 (M++[[.list 1 .sh ((drop (toNat (0:Int)) (take (toNat (k.length:Int)) s))++[[pI C]]),.list 4 .sh L]])] n0 λn1=>
N none n1))
(λl7 q=>
PK l7
(F (wrap .i64 (l+1)) q)
(∃a2 T,ay q d 0 1=some [.list 2 a2 T]/\
∃a3 b7 b6,ay q e 0 1=some [pV a3 b7 b6]/\
∃b8,ay q f 0 1=some [pB b8]/\
K (.aA [.list 2 a2 T,pV a3 b7 b6,pB b8]) q)
[])
m5)
(aU (pA t) λk0 l4=>
∃e4,ay b k0 l4 1=some [pA e4]/\
nP g λk1 l5=>
∃e5 e6 e7 p3 e8 p4 e9 f0 p5 f1,ay b k1 l5 7=some [pI e5,pB e6,pS e7,.list 6 p3 e8,.list 6 p4 e9,pB f0,.list 7 p5 f1]/\
∃f3 f2,ay b i 1 1=some [.list 4 f3 f2]/\
aa prog 118 [pA e4,.list 7 .nr [[pI e5,pB e6,pS e7,.list 6 .sh e8,.list 6 .sh e9,pB f0,.list 7 .sh f1]],.list 4 f3 f2,pI 0] b λp0 r=>
∃p6 f4 f5,p0=(.aA [.list 1 p6 f4,pB f5])/\
ab (!f5)
(stM d 0 [.list 2 .nil []] r λn2=>
stM e 0 [pV none 0 0] n2 λn4=>
stM f 0 [pB false] n4 λu=>
∃V U,ay u d 0 1=some [.list 2 V U]/\
∃a4 a6 a5,ay u e 0 1=some [pV a4 a6 a5]/\
∃b9,ay u f 0 1=some [pB b9]/\
K (.aA [.list 2 V U,pV a4 a6 a5,pB b9]) u)
(ab (decide ((f4.length:Int)>0))
(∃f6 H,ay r p 0 1=some [.list 2 f6 H]/\
∃p7 I p8 J,ay r i 0 2=some [.list 1 p7 I,.list 4 p8 J]/\
aW false 2 48 f6 H [[.list 1 .sh I,.list 4 .sh J]] r λk4 n5=>
stM p 0 [.list 2 k4 (H++[[.list 1 .sh I,.list 4 .sh J]])] n5 λn6=>
F (wrap .i64 (l+1)) n6)
(F (wrap .i64 (l+1)) r))))
(∃z y,ay j p 0 1=some [.list 2 z y]/\
(aU (pA t) λk2 l6=>
∃c8,ay j k2 l6 1=some [pA c8]/\
nP c8 λR S=>
(∃d0 d8 d7,ay j R (S+2) 1=some [pV d0 d8 d7]/\
(stM d 0 [.list 2 z y] j λn7=>
(stM e 0 [pV d0 d8 d7] n7 λn8=>
(stM f 0 [pB true] n8 λv=>
∃X W,ay v d 0 1=some [.list 2 X W]/\
∃a7 a9 a8,ay v e 0 1=some [pV a7 a9 a8]/\
∃c0,ay v f 0 1=some [pB c0]/\
K (.aA [.list 2 X W,pV a7 a9 a8,pB c0]) v)/\
True)/\
True)/\
True)/\
(stM d 0 [.list 2 z y] j λc7=>
∃d1 d3 d2,ay c7 R (S+2) 1=some [pV d1 d3 d2]/\
(stM e 0 [pV d1 d3 d2] c7 λn9=>
(stM f 0 [pB true] n9 λw=>
∃Z Y,ay w d 0 1=some [.list 2 Z Y]/\
∃b0 b2 b1,ay w e 0 1=some [pV b0 b2 b1]/\
∃c1,ay w f 0 1=some [pB c1]/\
K (.aA [.list 2 Z Y,pV b0 b2 b1,pB c1]) w)/\
True)/\
True)/\
True)/\
(stM d 0 [.list 2 z y] j λG=>
aU (pA t) λj3 k7=>
∃c9,ay G j3 k7 1=some [pA c9]/\
nP c9 λj4 k8=>
∃d4 d6 d5,ay G j4 (k8+2) 1=some [pV d4 d6 d5]/\
(stM e 0 [pV d4 d6 d5] G λo1=>
(stM f 0 [pB true] o1 λx=>
∃a1 a0,ay x d 0 1=some [.list 2 a1 a0]/\
∃b3 b5 b4,ay x e 0 1=some [pV b3 b5 b4]/\
∃c2,ay x f 0 1=some [pB c2]/\
K (.aA [.list 2 a1 a0,pV b3 b5 b4,pB c2]) x)/\
True)/\
True)/\
True))
(0) m2)):aa prog 67 [pA o,pA g,.list 2 i7 E] u0 K:=
VC [13,1000020] [(4,⟨[(32,.one (.raw (.int .i64)))],[]⟩)] [(2,⟨[(9,.one (.raw .ptr))],[]⟩)] [(85,[88,121])] [] [] [7,27,112,113,2029002] func67 h
theorem xZ.c{e f:Option Addr}(h:
nP f λk n=>
∃s d,ay u0 k (n+8) 1=some [.list 1 s d]/\
ao (α:=Int) (λm a b=>
ab (decide (a<(d.length:Int)))
(0<=a/\∃(g:List PV),(d)[toNat a]?=some g/\
∃i,aE g 0 1=some [pI i]/\
nP e λl o=>
∃j,ay b l (o+3) 1=some [pA j]/\
aa prog 119 [pA j,pI i] b λq p=>
∃r,q=(pB r)/\
m (wrap .i64 (a+1)) p)
(K (.aA []) b))
(0) u0):aa prog 68 [pA e,pA f] u0 K:=
VC [] [(1,⟨[(11,.one (.raw (.int .i64)))],[]⟩)] [] [] [] [] [] func68 h
theorem xY.c{m:Option Addr}{B:Fl}{j:Lq}(h:
ao (α:=Int) (λM d b=>
ab (decide (d>=0))
(0<=d/\∃(s:List PV),(j)[toNat d]?=some s/\
∃i,aE s 0 1=some [pA i]/\
nP i λC O=>
∃a4 v a5,ay b C (O+7) 1=some [pV a4 v a5]/\
ab (decide ((((v:Nat):Int):Int)>0))
(K (.aA []) b)
(nP i λD P=>
∃w,ay b D (P+11) 1=some [pI w]/\
ab (decide (w>0))
(K (.aA []) b)
(nP m λE Q=>
∃x,ay b E (Q+2) 1=some [pA x]/\
bZ (α:=Option Addr) (λq=>
ab (decide (d>0))
(0<=(wrap .i64 (d-1))/\∃(t:List PV),(j)[toNat (wrap .i64 (d-1))]?=some t/\
∃y,aE t 0 1=some [pA y]/\
q y b)
(q x b))
(λk u=>
bZ (α:=Unit) (λr=>
nP k λF R=>
∃z n a6,ay u F (R+7) 1=some [pV z n a6]/\
ao (α:=Int) (λN a e=>
ab (decide (a<((n:Nat):Int)))
(bH z λG S=>
0<=a/\a<((n:Nat):Int)/\
∃A,ay e G (S+toNat a*1) 1=some [pA A]/\
JS (pA A) (pA i) e λL=>
ab L
(nP k λH T=>
∃o a7 f,ay e H (T+7) 1=some [pV o a7 f]/\
iq o/\(0:Int)<=(0:Int)/\0<=a/\a<=((f:Nat):Int)/\((f:Nat):Int)<=((f:Nat):Int)/\
nP k λI U=>
∃p l g,ay e I (U+7) 1=some [pV p l g]/\
iq p/\0<=(wrap .i64 (a+1))/\(wrap .i64 (a+1))<=((l:Nat):Int)/\((l:Nat):Int)<=((g:Nat):Int)/\((g:Nat):Int)<=((g:Nat):Int)/\
gP 1 8 110 (yZ o (toNat (0:Int)) (toNat ((f:Nat):Int)) 1) (toNat a-toNat (0:Int)) (toNat ((f:Nat):Int)-toNat (0:Int)) (pV (yZ p (toNat (wrap .i64 (a+1))) (toNat ((g:Nat):Int)) 1) (toNat ((l:Nat):Int)-toNat (wrap .i64 (a+1))) (toNat ((g:Nat):Int)-toNat (wrap .i64 (a+1)))) e λW Y X a0=>
nP k λJ V=>
stM J (V+7) [pV W Y X] a0 λa1=>
r () a1)
(N (wrap .i64 (a+1)) e))
(r () e))
(0) u)
(λa8 Z=>
aa prog 68 [pA m,pA i] Z λa3 a2=>
 a3=(.aA [])/\
M (wrap .i64 (d-1)) a2)))))
(K (.aA []) b))
(wrap .i64 ((j.length:Int)-1)) u0):aa prog 69 [pA m,.list 1 B j] u0 K:=
VC [] [(1,⟨[(4,.one (.raw (.int .i64)))],[]⟩),(9,⟨[(49,.one (.raw (.int .i64)))],[]⟩)] [(8,⟨[(6,.one (.raw .ptr))],[]⟩),(14,⟨[],[]⟩)] [] [] [] [22,23,46,47,60,61,63,66,67,70,71,73] func69 h
theorem BX.c{e:Option Addr}(h:
cg u0 3 [pI 0] λa x=>
stM a 0 [pI 0] x λg=>
nP e λs u=>
∃q,ay g s (u+6) 1=some [pA q]/\
aa prog 61 [pA q] g λA y=>
∃j k l,A=(.fn j k l)/\
bu prog (.fn j k l) (λB r d=>
∃C D F E H G I b,B=[pS C,.agg [pS D,.list 7 F E,.list 19 H G,.list 1 I b]]/\
∃m,ay d a 0 1=some [pI m]/\
0<=(wrap .i64 ((b.length:Int)-1))/\∃(f:List PV),(b)[toNat (wrap .i64 ((b.length:Int)-1))]?=some f/\
∃n,aE f 0 1=some [pA n]/\
nP n λt v=>
∃J o,ay d t (v+9) 1=some [.list 2 J o]/\
stM a 0 [pI (wrap .i64 (m+(o.length:Int)))] d λz=>
r none z)
(λw i=>
PK w
(∃p,ay i a 0 1=some [pI p]/\
K (pI p) i)
(False)
[])
y):aa prog 70 [pA e] u0 K:=
VC [5] [] [] [(11,[118,108])] [] [] [] func70 h
theorem Jd.c{a e b g i k s:Int}{d f j:ByteArray}{q r:Bool}(h:
ab (a == 1)
(ab (b != 1)
(aa prog 122 [.agg [pI a,pS d,pI e]] u0 λu l=>
∃n,u=(pB n)/\
ab n
(aa prog 122 [.agg [pI b,pS f,pI g]] l λv m=>
∃o,v=(pB o)/\
ab o
(aa prog 122 [.agg [pI i,pS j,pI k]] m λw t=>
∃p,w=(pB p)/\
K (pB p) t)
(K (pB false) m))
(K (pB false) l))
(K (pB false) u0))
(K (pB false) u0)):aa prog 72 [.agg [pI a,pS d,pI e,pI b,pS f,pI g,pI i,pS j,pI k,pB q,pB r,pI s]] u0 K:=
VC [1] [] [] [] [] [] [] func72 h
theorem BW.c{a:Option Addr}{b:Int}(h:
nP a λs t=>
∃d,ay u0 s (t+4) 1=some [pA d]/\
aa prog 123 [pA d,.agg [pI 0,pS ⟨#[]⟩,pI 0,pI 0,pS ⟨#[]⟩,pI 0,pI 0,pS ⟨#[]⟩,pI 0,pB false,pB false,pI b]] u0 λv u=>
∃e f g i j k l m n o p q r,v=(.aA [.agg [pI e,pS f,pI g,pI i,pS j,pI k,pI l,pS m,pI n,pB o,pB p,pI q],pB r])/\
K (.aA [.agg [pI e,pS f,pI g,pI i,pS j,pI k,pI l,pS m,pI n,pB o,pB p,pI q],pB r]) u):aa prog 73 [pA a,pI b] u0 K:=
VC [4,6] [] [] [] [] [] [] func73 h
theorem lh.c{a:Option Addr}(h:
K (.fn (.func 126) [] [.bk [pA a] 0]) u0):aa prog 77 [pA a] u0 K:=
VC [] [] [] [] [1] [] [] func77 h
theorem zo.c{a:Option Addr}{b e i k l n f:Int}{d j m:ByteArray}{o p:Bool}(h:
nP a λD H=>
∃v,ay u0 D (H+4) 1=some [pA v]/\
aa prog 128 [pA v,.agg [pI b,pS d,pI e,pI i,pS j,pI k,pI l,pS m,pI n,pB o,pB p,pI f]] u0 λP s=>
∃V,P=(pB V)/\
nP a λE I=>
∃w,ay s E (I+5) 1=some [pA w]/\
aa prog 129 [pA w,.agg [pI b,pS d,pI e]] s λQ t=>
∃r x,Q=(.aA [pA r,pB x])/\
bZ (α:=Unit) (λg=>
ab x
(aa prog 128 [pA r,.agg [pI b,pS d,pI e,pI i,pS j,pI k,pI l,pS m,pI n,pB o,pB p,pI f]] t λR M=>
∃W,R=(pB W)/\
aa prog 130 [pA r] M λS q=>
∃y,S=(pI y)/\
ab (y == 0)
(nP a λF J=>
∃z,ay q F (J+5) 1=some [pA z]/\
aa prog 131 [pA z,.agg [pI b,pS d,pI e]] q λT N=>
∃X Y,T=(.aA [pA X,pB Y])/\
g () N)
(g () q))
(g () t))
(λa0 u=>
nP a λG L=>
∃A,ay u G (L+3) 1=some [pA A]/\
aa prog 132 [pA A,pI f] u λU O=>
∃C B Z,U=(.aA [.list 1 C B,pI Z])/\
K (.list 1 C B) O)):aa prog 78 [pA a,.agg [pI b,pS d,pI e,pI i,pS j,pI k,pI l,pS m,pI n,pB o,pB p,pI f]] u0 K:=
VC [3] [] [(7,⟨[],[]⟩)] [] [] [] [] func78 h
theorem BV.c{e:Option Addr}{a d f i j l o:Int}{b g k:ByteArray}{m n:Bool}(h:
nP e λD H=>
∃v,ay u0 D (H+4) 1=some [pA v]/\
aa prog 74 [pA v,.agg [pI a,pS b,pI d,pI f,pS g,pI i,pI j,pS k,pI l,pB m,pB n,pI o]] u0 λQ r=>
∃W,Q=(pB W)/\
nP e λE I=>
∃w,ay r E (I+5) 1=some [pA w]/\
aa prog 129 [pA w,.agg [pI a,pS b,pI d]] r λR s=>
∃x y,R=(.aA [pA x,pB y])/\
bZ (α:=Option Addr) (λq=>
ab (!y)
(aa prog 48 [.list 12 .nil []] s λS t=>
∃p,S=(pA p)/\
nP e λF J=>
∃z,ay t F (J+5) 1=some [pA z]/\
aa prog 135 [pA z,.agg [pI a,pS b,pI d],pA p] t λT O=>
∃X,T=(pB X)/\
q p O)
(q x s))
(λM N=>
aa prog 74 [pA M,.agg [pI a,pS b,pI d,pI f,pS g,pI i,pI j,pS k,pI l,pB m,pB n,pI o]] N λU u=>
∃Y,U=(pB Y)/\
nP e λG L=>
∃A,ay u G (L+3) 1=some [pA A]/\
aa prog 136 [pA A,.agg [pI a,pS b,pI d,pI f,pS g,pI i,pI j,pS k,pI l,pB m,pB n,pI o]] u λV P=>
∃C B Z,V=(.aA [.list 1 C B,pI Z])/\
K (.list 1 C B) P)):aa prog 80 [pA e,.agg [pI a,pS b,pI d,pI f,pS g,pI i,pI j,pS k,pI l,pB m,pB n,pI o]] u0 K:=
VC [3] [] [(6,⟨[(5,.one (.raw .ptr))],[]⟩)] [] [] [] [] func80 h
theorem zm.c{e k f:Option Addr}{m:Fl}{l:Lq}{n:Bool}(h:
nP k λJ U=>
∃v g a9,ay u0 J (U+7) 1=some [pV v g a9]/\
ao (α:=Int) (λT b d=>
ab (decide (b<((g:Nat):Int)))
(bH v λL V=>
0<=b/\b<((g:Nat):Int)/\
∃a,ay d L (V+toNat b*1) 1=some [pA a]/\
nP a λM W=>
∃x w,ay d M (W+9) 1=some [.list 2 x w]/\
nP a λN X=>
stM N (X+12) [.list 2 x w] d λp=>
nP a λO Y=>
∃z y,ay p O (Y+10) 1=some [.list 1 z y]/\
nP a λP Z=>
stM P (Z+13) [.list 1 z y] p λq=>
bZ (α:=Bool) (λi=>
ab n
(i true q)
(aa prog 137 [pA a,pA f] q λa6 a3=>
∃A,a6=(pB A)/\
i A a3))
(λo r=>
bZ (α:=Unit) (λj=>
ab o
(aa prog 67 [pA e,pA a,.list 2 m l] r λa7 t=>
∃C B E D F,a7=(.aA [.list 2 C B,.list 1 E D,pB F])/\
ab (!F)
(K (pB false) t)
(nP a λQ a0=>
stM Q (a0+12) [.list 2 C B] t λa4=>
nP a λR a1=>
stM R (a1+13) [.list 1 E D] a4 λa5=>
j () a5))
(j () r))
(λb0 s=>
nP a λS a2=>
∃H G,ay s S (a2+12) 1=some [.list 2 H G]/\
aa prog 81 [pA e,pA a,.list 2 H G,pB o,pA f] s λa8 u=>
∃I,a8=(pB I)/\
ab (!I)
(K (pB false) u)
(T (wrap .i64 (b+1)) u))))
(K (pB true) d))
(0) u0):aa prog 81 [pA e,pA k,.list 2 m l,pB n,pA f] u0 K:=
VC [] [(2,⟨[(22,.one (.raw (.int .i64)))],[]⟩)] [(7,⟨[(13,.one (.raw .bool))],[]⟩),(13,⟨[],[]⟩)] [] [] [] [19,20] func81 h
theorem CX.c{f:Option Addr}(h:
nP f λn w=>
∃m e J,ay u0 n (w+7) 1=some [pV m e J]/\
ao (α:=Int) (λv b d=>
ab (decide (b<((e:Nat):Int)))
(bH m λo x=>
0<=b/\b<((e:Nat):Int)/\
∃a,ay d o (x+toNat b*1) 1=some [pA a]/\
nP a λp y=>
∃j i,ay d p (y+12) 1=some [.list 2 j i]/\
nP a λq z=>
stM q (z+9) [.list 2 j i] d λg=>
nP a λr A=>
∃l k,ay g r (A+13) 1=some [.list 1 l k]/\
nP a λs B=>
stM s (B+10) [.list 1 l k] g λE=>
nP a λt C=>
stM t (C+12) [.list 2 .nil []] E λF=>
nP a λu D=>
stM u (D+13) [.list 1 .nil []] F λG=>
aa prog 82 [pA a] G λI H=>
 I=(.aA [])/\
v (wrap .i64 (b+1)) H)
(K (.aA []) d))
(0) u0):aa prog 82 [pA f] u0 K:=
VC [] [(1,⟨[(9,.one (.raw (.int .i64)))],[]⟩)] [] [] [] [] [6,7] func82 h
theorem x_.c{f:Fn}{g i j:List PV}(h:
cg u0 105 [.fn f g i] λF l=>
∃D,aE j 0 1=some [pA D]/\
nP D λE H=>
∃o,ay l E (H+6) 1=some [pA o]/\
aa prog 61 [pA o] l λN J=>
∃p q r,N=(.fn p q r)/\
bu prog (.fn p q r) (λQ e L=>
∃s t R u S v T w,Q=[pS s,.agg [pS t,.list 7 R u,.list 19 S v,.list 1 T w]]/\
aa prog 45 [pS s,.agg [pS t,.list 7 .sh u,.list 19 .sh v,.list 1 .sh w]] L λO M=>
∃U d,O=(.list 2 U d)/\
ao (α:=Int) (λG a b=>
ab (decide (a<(d.length:Int)))
(0<=a/\∃(k:List PV),(d)[toNat a]?=some k/\
∃x V y,aE k 0 2=some [pS x,.list 1 V y]/\
∃z A B,ay b F 0 1=some [.fn z A B]/\
bJ prog (.fn z A B) [.agg [pS x,.list 1 .sh y]] b λP n=>
∃C,P=(pB C)/\
ab (!C)
(e (some .ret) n)
(G (wrap .i64 (a+1)) n))
(e none b))
(0) M)
(λI m=>
PK I
(K (.aA []) m)
(K (.aA []) m)
[])
J):aa prog 83 [.fn f g i,.bk j 0] u0 K:=
VC [4,6] [(5,⟨[(18,.one (.raw (.int .i64)))],[]⟩)] [] [(12,[118,108])] [] [] [] func83 h
theorem ur.c{a:ByteArray}(h:
ab (decide ((((ByteArray.size a:Nat):Int):Int)<1))
(K (pB false) u0)
(ab (decide ((((ByteArray.size a:Nat):Int):Int)>32))
(K (pB false) u0)
((0:Int)<=0/\∃Tw:UInt8,a[toNat 0]?=some Tw/\
ab (decide ((((UInt8.toNat Tw:Nat):Int):Int)<97))
(K (pB false) u0)
((0:Int)<=0/\∃c19:UInt8,a[toNat 0]?=some c19/\
ab (decide ((((UInt8.toNat c19:Nat):Int):Int)>122))
(K (pB false) u0)
(ao (α:=Int) (λg b d=>
ab (decide (b<((ByteArray.size a:Nat):Int)))
(0<=b/\∃c30:UInt8,a[toNat b]?=some c30/\
aa prog 138 [.raw (.int .u8 ((UInt8.toNat c30:Nat):Int))] d λi e=>
∃f,i=(pB f)/\
ab (!f)
(K (pB false) e)
(g (wrap .i64 (b+1)) e))
(K (pB true) d))
(0) u0))))):aa prog 84 [pS a] u0 K:=
VC [] [(4,⟨[(3,.one (.raw (.int .i64)))],[]⟩)] [] [] [] [] [] func84 h
theorem kP.c{B:Fl}{b:Lq}{g d:Int}(h:
ao (α:=Int×Int) (λC a l=>
ab (decide (a.2<(b.length:Int)))
(0<=a.2/\∃(i:List PV),(b)[toNat a.2]?=some i/\
∃o p q H r I s t J u,aE i 0 7=some [pI o,pB p,pS q,.list 6 H r,.list 6 I s,pB t,.list 7 J u]/\
aa prog 139 [.agg [pI o,pB p,pS q,.list 6 .sh r,.list 6 .sh s,pB t,.list 7 .sh u],pI d] l λE m=>
∃e,E=(pI e)/\
ab (e != 0)
(K (.aA [pI a.1,pI e]) m)
(0<=a.2/\∃(j:List PV),(b)[toNat a.2]?=some j/\
∃w v,aE j 6 1=some [.list 7 w v]/\
aa prog 85 [.list 7 w v,pI (wrap .i64 (a.1+1)),pI (wrap .i64 (d+1))] m λF n=>
∃x f,F=(.aA [pI x,pI f])/\
ab (f != 0)
(K (.aA [pI x,pI f]) n)
(0<=a.2/\∃(k:List PV),(b)[toNat a.2]?=some k/\
∃z y,aE k 6 1=some [.list 7 z y]/\
aa prog 37 [.list 7 z y] n λG D=>
∃A,G=(pI A)/\
C ((wrap .i64 (a.1+(wrap .i64 (1+A)))),(wrap .i64 (a.2+1))) D)))
(K (.aA [pI (-1),pI 0]) l))
(g,0) u0):aa prog 85 [.list 7 B b,pI g,pI d] u0 K:=
VC [] [(2,⟨[(1,.one (.raw (.int .i64))),(8,.one (.raw (.int .i64)))],[]⟩)] [] [] [] [] [] func85 h
theorem wq.c{q r t v w i j l n:ByteArray}{s u b g x d k e m o:Int}(h:
aa prog 84 [pS q] u0 λH y=>
∃D,H=(pB D)/\
ab (!D)
(K (pB false) y)
(aa prog 140 [.agg [pS r,pI s,pS t,pI u]] y λI z=>
∃B,I=(pB B)/\
ab (!B)
(K (pB false) z)
(aa prog 140 [.agg [pS v,pI g,pS w,pI x]] z λJ a=>
∃C,J=(pB C)/\
ab (!C)
(K (pB false) a)
(ab (decide (b<0))
(K (pB false) a)
(ab (decide (b>3))
(K (pB false) a)
(ab (decide (e<1))
(K (pB false) a)
(ab (decide (e>10))
(K (pB false) a)
(bZ (α:=Unit) (λp=>
ab (b == 0)
(ab (!(aK i ⟨#[]⟩&&((d == 0)&&(aK j ⟨#[]⟩&&((k == 0)&&true)))))
(K (pB false) a)
(p () a))
(aa prog 140 [.agg [pS i,pI d,pS j,pI k]] a λL f=>
∃E,L=(pB E)/\
ab (!E)
(K (pB false) f)
(ab (g == 3)
(K (pB false) f)
(ab (d == 3)
(K (pB false) f)
(p () f)))))
(λN A=>
ab (decide (e>=8))
(aa prog 140 [.agg [pS l,pI m,pS n,pI o]] A λM G=>
∃F,M=(pB F)/\
K (pB F) G)
(K (pB (aK l ⟨#[]⟩&&((m == 0)&&(aK n ⟨#[]⟩&&((o == 0)&&true))))) A)))))))))):aa prog 86 [.agg [pS q,pS r,pI s,pS t,pI u,pI b,pS v,pI g,pS w,pI x,pS i,pI d,pS j,pI k,pI e,pS l,pI m,pS n,pI o]] u0 K:=
VC [1] [] [(8,⟨[],[]⟩)] [] [] [] [] func86 h
theorem wm.c{z:Int}{o C:Bool}{f:ByteArray}{A B E F:Fl}{b d D e:Lq}(h:
aW false 1 16 .nil [] e u0 λg J=>
bZ (α:=(Fl×Lq)) (λn=>
aa prog 88 [.list 1 g ([]++e),pS f] J λQ j=>
∃u,Q=(pB u)/\
ab (!u)
(ab (!o)
(K (.aA [.list 1 .nil [],pB false]) j)
(aW false 1 16 g ([]++e) [[pS f]] j λG M=>
n (G,(([]++e)++[[pS f]])) M))
(n (g,([]++e)) j))
(λt L=>
aW true 6 80 .nil [] b L λH N=>
aW false 6 80 H ([]++b) d N λS O=>
ao (α:=(Fl×Lq)×Int) (λi a k=>
ab (decide (a.2<((List.length (([]++b)++d):Nat):Int)))
(0<=a.2/\∃(p:List PV),((([]++b)++d))[toNat a.2]?=some p/\
∃v,aE p 1 1=some [pS v]/\
ab (aK v ⟨#[]⟩)
(i ((a.1.1,a.1.2),(wrap .i64 (a.2+1))) k)
(0<=a.2/\∃(q:List PV),((([]++b)++d))[toNat a.2]?=some q/\
∃w,aE q 1 1=some [pS w]/\
aa prog 88 [.list 1 a.1.1 a.1.2,pS w] k λR l=>
∃x,R=(pB x)/\
ab x
(i ((a.1.1,a.1.2),(wrap .i64 (a.2+1))) l)
(0<=a.2/\∃(r:List PV),((([]++b)++d))[toNat a.2]?=some r/\
∃y,aE r 0 1=some [pI y]/\
ab (y != 1)
(K (.aA [.list 1 .nil [],pB false]) l)
(0<=a.2/\∃(s:List PV),((([]++b)++d))[toNat a.2]?=some s/\
∃m,aE s 1 1=some [pS m]/\
aW false 1 16 a.1.1 a.1.2 [[pS m]] l λI P=>
i ((I,(a.1.2++[[pS m]])),(wrap .i64 (a.2+1))) P))))
(K (.aA [.list 1 a.1.1 a.1.2,pB true]) k))
((t.1,t.2),0) O)):aa prog 87 [.agg [pI z,pB o,pS f,.list 6 A b,.list 6 B d,pB C,.list 7 E D],.list 1 F e] u0 K:=
VC [2] [(8,⟨[(6,.one (.list 1)),(8,.one (.raw (.int .i64)))],[]⟩)] [(6,⟨[(6,.one (.list 1))],[]⟩)] [] [] [] [] func87 h
theorem wo.c{i:Fl}{b:Lq}{e:ByteArray}(h:
ao (α:=Int) (λj a d=>
ab (decide (a<(b.length:Int)))
(0<=a/\∃(f:List PV),(b)[toNat a]?=some f/\
∃g,aE f 0 1=some [pS g]/\
ab (aK g e)
(K (pB true) d)
(j (wrap .i64 (a+1)) d))
(K (pB false) d))
(0) u0):aa prog 88 [.list 1 i b,pS e] u0 K:=
VC [] [(2,⟨[(5,.one (.raw (.int .i64)))],[]⟩)] [] [] [] [] [] func88 h
theorem pX.c{a:Int}{b j:Bool}{d:ByteArray}{f i l:Fl}{e g k:Lq}(h:
aa prog 141 [.list 6 f e] u0 λv s=>
∃p o,v=(.list 6 p o)/\
aa prog 141 [.list 6 i g] s λw t=>
∃r q,w=(.list 6 r q)/\
aa prog 39 [.list 7 l k] t λx u=>
∃n m,x=(.list 7 n m)/\
K (.agg [pI a,pB b,pS d,.list 6 p o,.list 6 r q,pB j,.list 7 n m]) u):aa prog 89 [.agg [pI a,pB b,pS d,.list 6 f e,.list 6 i g,pB j,.list 7 l k]] u0 K:=
VC [1,2] [] [] [] [] [] [] func89 h
theorem oa.c{a:Int}{b j:Bool}{d:ByteArray}{f i l:Fl}{e g k:Lq}(h:
aa prog 141 [.list 6 f e] u0 λy v=>
∃p r q,y=(pV p r q)/\
aa prog 141 [.list 6 i g] v λz w=>
∃s u t,z=(pV s u t)/\
aa prog 39 [.list 7 l k] w λA x=>
∃m o n,A=(pV m o n)/\
K (.agg [pI a,pB b,pS d,pV p r q,pV s u t,pB j,pV m o n]) x):aa prog 89 [.agg [pI a,pB b,pS d,.list 6 f e,.list 6 i g,pB j,.list 7 l k]] u0 K:=
VC [1,2] [] [] [] [] [] [2,5,9,13,14,15] func89 h
theorem oV.c{d:Option Addr}{e:ByteArray}(h:
ao (α:=Int) (λm a b=>
nP d λk n=>
∃p g,ay b k (n+2) 1=some [.list 3 p g]/\
ab (decide (a<(g.length:Int)))
(nP d λl o=>
∃q i,ay b l (o+2) 1=some [.list 3 q i]/\
0<=a/\∃(f:List PV),(i)[toNat a]?=some f/\
∃j,aE f 0 1=some [pS j]/\
ab (aK j e)
(K (.aA [pI a,pB true]) b)
(m (wrap .i64 (a+1)) b))
(K (.aA [pI 0,pB false]) b))
(0) u0):aa prog 90 [pA d,pS e] u0 K:=
VC [] [(2,⟨[(6,.one (.raw (.int .i64)))],[]⟩)] [] [] [] [] [] func90 h
theorem oU.c{e:Option Addr}{g:ByteArray}{v w:Fl}{i j:Lq}(h:
nP e λx E=>
∃l k,ay u0 x (E+3) 1=some [.list 12 l k]/\
nP e λy F=>
∃m,ay u0 y F 1=some [pI m]/\
aa prog 142 [.agg [pS g,.list 7 .sh i,.list 19 .sh j],.list 12 l k,pI m] u0 λN L=>
∃o n d,N=(.aA [.list 3 o n,pA d])/\
ao (α:=Int×Int) (λD a b=>
nP d λz G=>
∃P p Q,ay b z G 1=some [pV P p Q]/\
ab (decide (a.2<((p:Nat):Int)))
(nP d λA H=>
∃q r R,ay b A H 1=some [pV q r R]/\
bH q λB I=>
0<=a.2/\a.2<((r:Nat):Int)/\
∃f,ay b B (I+toNat a.2*1) 1=some [pI f]/\
D ((if f>a.1 then f else a.1),(wrap .i64 (a.2+1))) b)
(nP d λC J=>
∃u,ay b C (J+2) 1=some [pB u]/\
cV prog 143 [.list 3 o n] b λO M=>
∃t s,O=(.list 3 t s)/\
K (.aA [.list 3 t s,pI a.1,pB (!u)]) (Mem.or b M)))
(0,0) L):aa prog 91 [pA e,.agg [pS g,.list 7 v i,.list 19 w j]] u0 K:=
VC [3] [(4,⟨[(9,.one (.raw (.int .i64))),(10,.one (.raw (.int .i64)))],[]⟩)] [] [] [] [] [27,28,36,37] func91 h
theorem sd.c{a e f i j l s:Int}{d g k:ByteArray}{q r:Bool}(h:
aa prog 144 [.agg [pI a,pS d,pI e]] u0 λu b=>
∃p,u=(pB p)/\
ab p
(ab (a == 1)
(aa prog 145 [.agg [pI f,pS g,pI i]] b λv m=>
∃n,v=(pB n)/\
ab n
(aa prog 144 [.agg [pI j,pS k,pI l]] m λw t=>
∃o,w=(pB o)/\
K (pB o) t)
(K (pB false) m))
(K (pB false) b))
(K (pB false) b)):aa prog 92 [.agg [pI a,pS d,pI e,pI f,pS g,pI i,pI j,pS k,pI l,pB q,pB r,pI s]] u0 K:=
VC [1] [] [] [] [] [] [] func92 h
theorem nX.c{b:Option Addr}(h:
ao (α:=(Fl×Lq)×(Fl×Lq)×Int×Bool×Int) (λy a d=>
nP b λr z=>
∃M k,ay d r (z+2) 1=some [.list 3 M k]/\
ab (decide (a.2.2.2.2<(k.length:Int)))
(nP b λs A=>
∃N l,ay d s (A+2) 1=some [.list 3 N l]/\
0<=a.2.2.2.2/\∃(i:List PV),(l)[toNat a.2.2.2.2]?=some i/\
∃m O n P o,aE i 0 3=some [pS m,.list 7 O n,.list 19 P o]/\
aa prog 91 [pA b,.agg [pS m,.list 7 .sh n,.list 19 .sh o]] d λL j=>
∃Q e f p,L=(.aA [.list 3 Q e,pI f,pB p])/\
bZ (α:=Bool) (λg=>
ab a.2.2.2.1
(g true j)
(g (!p) j))
(λE F=>
aW false 1 24 a.1.1 a.1.2 [[.list 3 .sh e]] F λw G=>
aW false 1 8 a.2.1.1 a.2.1.2 [[pI f]] G λx H=>
y ((w,(a.1.2++[[.list 3 .sh e]])),(x,(a.2.1.2++[[pI f]])),(wrap .i64 (a.2.2.1+(e.length:Int))),E,(wrap .i64 (a.2.2.2.2+1))) H))
(ab a.2.2.2.1
(K (pI 25) d)
(nP b λt B=>
∃q,ay d t (B+1) 1=some [pI q]/\
ab (decide (a.2.2.1>q))
(K (pI 26) d)
(nP b λu C=>
stM u (C+4) [.list 1 a.1.1 a.1.2] d λI=>
nP b λv D=>
stM v (D+5) [.list 1 a.2.1.1 a.2.1.2] I λJ=>
K (pI 0) J))))
((.nil,[]),(.nil,[]),0,false,0) u0):aa prog 93 [pA b] u0 K:=
VC [] [(6,⟨[(3,.one (.list 1)),(4,.one (.list 1)),(5,.one (.raw (.int .i64))),(6,.one (.raw .bool)),(7,.one (.raw (.int .i64)))],[]⟩)] [(10,⟨[(6,.one (.raw .bool))],[]⟩)] [] [] [] [] func93 h
theorem jG.c{a:ByteArray}(h:
K (.agg [pS a,pS ⟨#[]⟩,.list 7 .nil [],.list 19 .nil [],.list 1 .nil []]) u0):aa prog 95 [pS a] u0 K:=
VC [2] [] [] [] [] [] [] func95 h
theorem mi.c{a:Option Addr}(h:
K (.fn (.func 148) [] [.bk [pA a] 0]) u0):aa prog 97 [pA a] u0 K:=
VC [] [] [] [] [1] [] [] func97 h
theorem eO.c{a:Option Addr}(h:
K (.fn (.func 155) [] [.bk [pA a] 0]) u0):aa prog 108 [pA a] u0 K:=
VC [] [] [] [] [1] [] [] func108 h
theorem v_.c{u:Fl}{b:Lq}(h:
ao (α:=(Fl×Lq)×Int) (λw a m=>
ab (decide (a.2<(b.length:Int)))
(0<=a.2/\∃(l:List PV),(b)[toNat a.2]?=some l/\
∃n o p A q B r s C t,aE l 0 7=some [pI n,pB o,pS p,.list 6 A q,.list 6 B r,pB s,.list 7 C t]/\
aa prog 112 [.agg [pI n,pB o,pS p,.list 6 .sh q,.list 6 .sh r,pB s,.list 7 .sh t]] m λz x=>
∃d e f D g E i j F k,z=(.agg [pI d,pB e,pS f,.list 6 D g,.list 6 E i,pB j,.list 7 F k])/\
aW false 7 112 a.1.1 a.1.2 [[pI d,pB e,pS f,.list 6 .sh g,.list 6 .sh i,pB j,.list 7 .sh k]] x λv y=>
w ((v,(a.1.2++[[pI d,pB e,pS f,.list 6 .sh g,.list 6 .sh i,pB j,.list 7 .sh k]])),(wrap .i64 (a.2+1))) y)
(K (.list 7 a.1.1 a.1.2) m))
((.nil,[]),0) u0):aa prog 109 [.list 7 u b] u0 K:=
VC [5] [(3,⟨[(3,.one (.list 7)),(8,.one (.raw (.int .i64)))],[]⟩)] [] [] [] [] [] func109 h
theorem zh.c{l:ByteArray}{m R:Fl}{e f:Lq}(h:
aa prog 157 [.agg [pS l,.list 7 .sh e,.list 19 .sh f]] u0 λU g=>
∃t k,U=(.aA [pI t,pI k])/\
ab (k != 0)
(K (.aA [pI t,pI k,.list 1 .nil []]) g)
((0:Int)<=0/\∃(o:List PV),(e)[toNat 0]?=some o/\
∃u,aE o 0 1=some [pI u]/\
ab (u != 1)
(K (.aA [pI 0,pI 9,.list 1 .nil []]) g)
(aa prog 158 [.list 1 .nil []] g λV S=>
∃v,V=(pA v)/\
cg S 294 [pA v,.list 1 .nil []] λb T=>
aa prog 159 [pP b 0,.list 7 m e,pI 0] T λW q=>
∃d w,W=(.aA [pI d,pB w])/\
ab (!w)
(K (.aA [pI d,pI 6,.list 1 .nil []]) q)
(ao (α:=Int) (λn a i=>
ab (decide (a<(f.length:Int)))
(0<=a/\∃(p:List PV),(f)[toNat a]?=some p/\
∃a0 x y z A B C D E F G H I J a1 a2 a3 a4 a5,aE p 0 19=some [pS a0,pS x,pI y,pS z,pI A,pI B,pS C,pI D,pS E,pI F,pS G,pI H,pS I,pI J,pI a1,pS a2,pI a3,pS a4,pI a5]/\
aa prog 160 [pP b 0,.agg [pS x,pI y,pS z,pI A]] i λX j=>
∃L,X=(pB L)/\
ab L
(K (.aA [pI (wrap .i64 (d+a)),pI 6,.list 1 .nil []]) j)
(ab (B != 0)
(aa prog 160 [pP b 0,.agg [pS C,pI D,pS E,pI F]] j λY r=>
∃M,Y=(pB M)/\
ab M
(K (.aA [pI (wrap .i64 (d+a)),pI 6,.list 1 .nil []]) r)
(aa prog 160 [pP b 0,.agg [pS G,pI H,pS I,pI J]] r λZ s=>
∃N,Z=(pB N)/\
ab N
(K (.aA [pI (wrap .i64 (d+a)),pI 6,.list 1 .nil []]) s)
(n (wrap .i64 (a+1)) s)))
(n (wrap .i64 (a+1)) j)))
(∃O Q P,ay i b 1 1=some [pV O Q P]/\
K (.aA [pI (-1),pI 0,pV O Q P]) i))
(0) q)))):aa prog 110 [.agg [pS l,.list 7 m e,.list 19 R f]] u0 K:=
VC [1,10] [(11,⟨[(42,.one (.raw (.int .i64)))],[]⟩)] [] [] [] [] [78] func110 h
theorem yW.c{e n:Int}{f m o u:Bool}{g p:ByteArray}{j l T r t U:Fl}{i k b q s d:Lq}(h:
ab (e != n)
(K (pB false) u0)
(ab (!(f == o))
(K (pB false) u0)
(ab (!aK g p)
(K (pB false) u0)
(ab (!(m == u))
(K (pB false) u0)
(ab ((b.length:Int) != (d.length:Int))
(K (pB false) u0)
(aa prog 161 [.list 6 j i,.list 6 r q] u0 λW x=>
∃B,W=(pB B)/\
ab (!B)
(K (pB false) x)
(aa prog 161 [.list 6 l k,.list 6 t s] x λX y=>
∃C,X=(pB C)/\
ab (!C)
(K (pB false) y)
(ao (α:=Int) (λV a z=>
ab (decide (a<(b.length:Int)))
(0<=a/\∃(v:List PV),(b)[toNat a]?=some v/\
∃D E F Z G a0 H I a1 J,aE v 0 7=some [pI D,pB E,pS F,.list 6 Z G,.list 6 a0 H,pB I,.list 7 a1 J]/\
0<=a/\∃(w:List PV),(d)[toNat a]?=some w/\
∃L M N a2 O a3 P Q a4 R,aE w 0 7=some [pI L,pB M,pS N,.list 6 a2 O,.list 6 a3 P,pB Q,.list 7 a4 R]/\
aa prog 111 [.agg [pI D,pB E,pS F,.list 6 .sh G,.list 6 .sh H,pB I,.list 7 .sh J],.agg [pI L,pB M,pS N,.list 6 .sh O,.list 6 .sh P,pB Q,.list 7 .sh R]] z λY A=>
∃S,Y=(pB S)/\
ab (!S)
(K (pB false) A)
(V (wrap .i64 (a+1)) A))
(K (pB true) z))
(0) y)))))))):aa prog 111 [.agg [pI e,pB f,pS g,.list 6 j i,.list 6 l k,pB m,.list 7 T b],.agg [pI n,pB o,pS p,.list 6 r q,.list 6 t s,pB u,.list 7 U d]] u0 K:=
VC [2,3,6] [(4,⟨[(61,.one (.raw (.int .i64)))],[]⟩)] [] [] [] [] [] func111 h
theorem sP.c{a:Int}{b j:Bool}{d:ByteArray}{f i l:Fl}{e g k:Lq}(h:
aa prog 162 [.list 6 f e] u0 λv s=>
∃p o,v=(.list 6 p o)/\
aa prog 162 [.list 6 i g] s λw t=>
∃r q,w=(.list 6 r q)/\
aa prog 109 [.list 7 l k] t λx u=>
∃n m,x=(.list 7 n m)/\
K (.agg [pI a,pB b,pS d,.list 6 p o,.list 6 r q,pB j,.list 7 n m]) u):aa prog 112 [.agg [pI a,pB b,pS d,.list 6 f e,.list 6 i g,pB j,.list 7 l k]] u0 K:=
VC [1,2] [] [] [] [] [] [] func112 h
theorem Gr.c{b:Fl}{a:Lq}(h:
K (.fn (.func 163) [] [.bk [.list 7 .sh a] 0]) u0):aa prog 113 [.list 7 b a] u0 K:=
VC [] [] [] [] [1] [] [] func113 h
theorem yf.c{V:Option Addr}{W:Int}{X a3:Bool}{Y:ByteArray}{a0 a2 a5:Fl}{Z a1 a4:Lq}(h:
cg u0 111 [pA V] λi k0=>
cg k0 84 [pI W,pB X,pS Y,.list 6 a0 Z,.list 6 a2 a1,pB a3,.list 7 a5 a4] λa k1=>
cg k1 3 [pI 0] λj b1=>
∃b6 b7 b8 m9 b9 n0 c0 c1 n1 c2,ay b1 a 0 7=some [pI b6,pB b7,pS b8,.list 6 m9 b9,.list 6 n0 c0,pB c1,.list 7 n1 c2]/\
aa prog 166 [.agg [pI b6,pB b7,pS b8,.list 6 .sh b9,.list 6 .sh c0,pB c1,.list 7 .sh c2]] b1 λl6 l2=>
∃c3 c4 c5 c7 c6 c9 c8 d0 d2 d1,l6=(.agg [pI c3,pB c4,pS c5,.list 6 c7 c6,.list 6 c9 c8,pB d0,.list 7 d2 d1])/\
stM a 0 [pI c3,pB c4,pS c5,.list 6 c7 c6,.list 6 c9 c8,pB d0,.list 7 d2 d1] l2 λl3=>
cg l3 191 [pI 0] λb l4=>
stM b 0 [pI 0] l4 λr=>
∃d3,ay r i 0 1=some [pA d3]/\
nP d3 λi6 j2=>
∃d4,ay r i6 (j2+1) 1=some [pA d4]/\
aa prog 167 [pA d4] r λl7 l5=>
∃d5 d6 d7,l7=(.fn d5 d6 d7)/\
bu prog (.fn d5 d6 d7) (λm7 n d=>
∃m d8 s d9 e0 t e1 u v n2 e2 e3 e4,m7=[pI m,.agg [pI d8,pB s,pS d9,.list 6 e0 t,.list 6 e1 u,pB v,.list 7 n2 e2,pI e3,pA e4]]/\
bZ (α:=Unit) (λg=>
∃e5,ay d a 1 1=some [pB e5]/\
ab (s == e5)
(∃e6,ay d a 5 1=some [pB e6]/\
ab (v == e6)
(∃e8 e7,ay d a 3 1=some [.list 6 e8 e7]/\
aa prog 168 [.list 6 e0 t,.list 6 e8 e7] d λl9 o=>
∃e9,l9=(pB e9)/\
ab e9
(∃f1 f0,ay o a 4 1=some [.list 6 f1 f0]/\
aa prog 168 [.list 6 e1 u,.list 6 f1 f0] o λm0 l=>
∃f2,m0=(pB f2)/\
ab f2
(∃f3,ay l i 0 1=some [pA f3]/\
nP f3 λi7 j3=>
∃f4,ay l i7 (j3+1) 1=some [pA f4]/\
aa prog 169 [pA f4,pI m,.agg [pI d8,pB s,pS d9,.list 6 .sh t,.list 6 .sh u,pB v,.list 7 .sh e2,pI (wrap .i64 (e3+1)),pA e4]] l λm1 k2=>
∃n3,m1=(pB n3)/\
stM j 0 [pI m] k2 λk3=>
n (some .ret) k3)
(g () l))
(g () o))
(g () d))
(g () d))
(λo3 k=>
∃f5,ay k b 0 1=some [pI f5]/\
ab (m == f5)
(∃f6,ay k b 0 1=some [pI f6]/\
stM b 0 [pI (wrap .i64 (f6+1))] k λk4=>
n none k4)
(n none k)))
(λj8 e=>
PK j8
(bZ (α:=Option Addr) (λT=>
∃w x y A z C B D F E,ay e a 0 7=some [pI w,pB x,pS y,.list 6 A z,.list 6 C B,pB D,.list 7 F E]/\
(cV prog 170 [.list 12 .nil []] e λm2 k5=>
∃f7,m2=(pA f7)/\
cg (Mem.or e k5) 196 [pI 0,pB false,pS ⟨#[]⟩,.list 6 .nil [],.list 6 .nil [],pB false,.list 7 .nil [],pI 0,pA none] λa6 k6=>
stM a6 0 [pI w,pB x,pS y,.list 6 A z,.list 6 C B,pB D,.list 7 F E,pI 1,pA f7] k6 λk7=>
T (some ⟨a6,0,none⟩) k7)/\
(cg e 196 [pI 0,pB false,pS ⟨#[]⟩,.list 6 .nil [],.list 6 .nil [],pB false,.list 7 .nil [],pI 0,pA none] λa7 b2=>
cV prog 170 [.list 12 .nil []] b2 λm3 k8=>
∃f8,m3=(pA f8)/\
stM a7 0 [pI w,pB x,pS y,.list 6 A z,.list 6 C B,pB D,.list 7 F E,pI 1,pA f8] (Mem.or b2 k8) λk9=>
T (some ⟨a7,0,none⟩) k9))
(λb0 p=>
∃f9,ay p i 0 1=some [pA f9]/\
nP f9 λi8 j4=>
∃g0,ay p i8 j4 1=some [pA g0]/\
aa prog 171 [pA g0] p λm4 l0=>
∃g1 g2 g3,m4=(.fn g1 g2 g3)/\
bu prog (.fn g1 g2 g3) (λm8 U b3=>
∃n4 G H I J L M N O P Q R S,m8=[pI n4,.agg [pI G,pS H,pI I,pI J,pS L,pI M,pI N,pS O,pI P,pB Q,pB R,pI S]]/\
∃g4 g5 g6 n5 g7 n6 g8 g9 n7 h0,ay b3 a 0 7=some [pI g4,pB g5,pS g6,.list 6 n5 g7,.list 6 n6 g8,pB g9,.list 7 n7 h0]/\
aa prog 172 [.agg [pI g4,pB g5,pS g6,.list 6 .sh g7,.list 6 .sh g8,pB g9,.list 7 .sh h0],.agg [pI G,pS H,pI I,pI J,pS L,pI M,pI N,pS O,pI P,pB Q,pB R,pI S]] b3 λm5 q=>
∃h1,m5=(pB h1)/\
ab h1
(aU (pA b0) λi9 j5=>
∃h2,ay q i9 (j5+8) 1=some [pA h2]/\
aa prog 173 [pA h2,.agg [pI G,pS H,pI I,pI J,pS L,pI M,pI N,pS O,pI P,pB Q,pB R,pI S]] q λm6 l1=>
∃n8,m6=(pB n8)/\
U none l1)
(U none q))
(λj9 f=>
PK j9
(∃h3,ay f i 0 1=some [pA h3]/\
nP h3 λj0 j6=>
∃h4,ay f j0 (j6+1) 1=some [pA h4]/\
∃h5,ay f b 0 1=some [pI h5]/\
aU (pA b0) λj1 j7=>
∃h6 h7 h8 n9 h9 o0 i0 i1 o1 i2 i3 i4,ay f j1 j7 9=some [pI h6,pB h7,pS h8,.list 6 n9 h9,.list 6 o0 i0,pB i1,.list 7 o1 i2,pI i3,pA i4]/\
aa prog 169 [pA h4,pI h5,.agg [pI h6,pB h7,pS h8,.list 6 .sh h9,.list 6 .sh i0,pB i1,.list 7 .sh i2,pI i3,pA i4]] f λl8 b4=>
∃o2,l8=(pB o2)/\
∃i5,ay b4 b 0 1=some [pI i5]/\
stM j 0 [pI i5] b4 λb5=>
∃a8,ay b5 j 0 1=some [pI a8]/\
K (pI a8) b5)
(False)
[])
l0))
(∃a9,ay e j 0 1=some [pI a9]/\
K (pI a9) e)
[])
l5):aa prog 114 [pA V,.agg [pI W,pB X,pS Y,.list 6 a0 Z,.list 6 a2 a1,pB a3,.list 7 a5 a4]] u0 K:=
VC [7,10] [] [(10,⟨[],[(7,9)]⟩),(13,⟨[(8,.one (.raw .ptr))],[]⟩)] [(18,[191,196]),(75,[191,88])] [] [] [] func114 h
theorem IV.c{b:Int}{d i:Bool}{e:ByteArray}{u v w o:Fl}{f g j n:Lq}{k:Fn}{l m:List PV}(h:
cg u0 121 [.list 4 o n] λa p=>
∃r q,ay p a 0 1=some [.list 4 r q]/\
aa prog 174 [.list 4 r q] p λz x=>
∃t s,z=(.list 4 t s)/\
stM a 0 [.list 4 t s] x λy=>
K (.fn (.func 175) [] [.bk [.fn k l m] 0,.bk [pI b,pB d,pS e,.list 6 .sh f,.list 6 .sh g,pB i,.list 7 .sh j] 0,pP a 0]) y):aa prog 115 [.agg [pI b,pB d,pS e,.list 6 u f,.list 6 v g,pB i,.list 7 w j],.fn k l m,.list 4 o n] u0 K:=
VC [] [] [] [] [3,4] [] [] func115 h
theorem xX.c{a:Option Addr}{s g:Int}{t y:Bool}{d:ByteArray}{v x A f:Fl}{u w z e:Lq}(h:
aa prog 177 [.list 4 f e,pS d] u0 λG D=>
∃j k l m,G=(.aA [.agg [pI j,pS k,pI l],pB m])/\
cg D 37 [pI 0,pS ⟨#[]⟩,pI 0] λi E=>
stM i 0 [pI j,pS k,pI l] E λb=>
ab (!m)
(∃n,aE [pA a] 0 1=some [pA n]/\
nP n λB C=>
∃o,ay b B (C+3) 1=some [pA o]/\
aa prog 178 [pA o,pI g] b λH F=>
∃p q r,H=(.fn p q r)/\
K (.fn p q r) F)
(K (.fn (.func 179) [] [.bk [pA a] 0,pP i 0]) b)):aa prog 116 [pA a,.agg [pI s,pB t,pS d,.list 6 v u,.list 6 x w,pB y,.list 7 A z],.list 4 f e,pI g] u0 K:=
VC [5] [] [] [] [4] [] [] func116 h
theorem sa.c{b:Option Addr}{a e:Int}(h:
nP b λq y=>
∃f g G,ay u0 q (y+2) 1=some [pV f g G]/\
nP b λr z=>
∃i j H,ay u0 r (z+2) 1=some [pV i j H]/\
bH i λs A=>
0<=a/\a<((j:Nat):Int)/\
∃k,ay u0 s (A+toNat a*1) 1=some [pI k]/\
bH f λt B=>
0<=a/\a<((g:Nat):Int)/\
stM t (B+toNat a*1) [pI (wrap .i64 (k+e))] u0 λd=>
nP b λu C=>
∃l m I,ay d u (C+2) 1=some [pV l m I]/\
bH l λv D=>
0<=a/\a<((m:Nat):Int)/\
∃n,ay d v (D+toNat a*1) 1=some [pI n]/\
nP b λw E=>
∃o,ay d w E 1=some [pA o]/\
nP o λx F=>
∃p,ay d x F 1=some [pI p]/\
K (pB (decide (n<=p))) d):aa prog 117 [pA b,pI a,pI e] u0 K:=
VC [] [] [] [] [] [] [9,10,14,15,24,25] func117 h
theorem BT.c{N:Option Addr}{e4 e5:Fl}{x O:Lq}{P:Int}(h:
cg u0 224 [pA N] λk f5=>
cg f5 3 [pI P] λf f6=>
cg f6 234 [.list 1 .nil []] λb g2=>
cg g2 4 [pB false] λd g9=>
ao (α:=(Fl×Lq)×Int) (λf1 g a8=>
ab (decide (g.2<(x.length:Int)))
(0<=g.2/\∃(a5:List PV),(x)[toNat g.2]?=some a5/\
∃l p q i5 r i6 s t b3 m,aE a5 0 7=some [pI l,pB p,pS q,.list 6 i5 r,.list 6 i6 s,pB t,.list 7 b3 m]/\
cg a8 234 [.list 1 .nil []] λj h3=>
ao (α:=Int) (λn i a=>
ab (decide (i<((List.length g.1.2:Nat):Int)))
(0<=i/\∃(a6:List PV),(g.1.2)[toNat i]?=some a6/\
∃u e,aE a6 0 1=some [.list 4 u e]/\
ab (l == 1)
(∃c2,ay a k 0 1=some [pA c2]/\
nP c2 λe6 f2=>
∃c3,ay a e6 f2 1=some [pA c3]/\
∃c4,ay a k 0 1=some [pA c4]/\
nP c4 λe7 f3=>
∃i8 c5,ay a e7 (f3+1) 1=some [.list 1 i8 c5]/\
∃H,ay a f 0 1=some [pI H]/\
0<=H/\∃(a7:List PV),(c5)[toNat H]?=some a7/\
∃c6,aE a7 0 1=some [pI c6]/\
cV prog 116 [pA c3,.agg [pI l,pB p,pS q,.list 6 .sh r,.list 6 .sh s,pB t,.list 7 .sh m],.list 4 u e,pI c6] a λh6 h4=>
∃c7 c8 c9,h6=(.fn c7 c8 c9)/\
aa prog 115 [.agg [pI l,pB p,pS q,.list 6 .sh r,.list 6 .sh s,pB t,.list 7 .sh m],.fn c7 c8 c9,.list 4 u e] (Mem.or a h4) λh7 h5=>
∃d0 d1 d2,h7=(.fn d0 d1 d2)/\
bu prog (.fn d0 d1 d2) (λi4 M F=>
∃i9 j0 j1 j2 j3 j4 j5 j6 j7 j8 j9 k0 k1 I,i4=[.agg [pI i9,pS j0,pI j1,pI j2,pS j3,pI j4,pI j5,pS j6,pI j7,pB j8,pB j9,pI k0],.list 4 k1 I]/\
∃d3,ay F k 0 1=some [pA d3]/\
∃d4,ay F f 0 1=some [pI d4]/\
aa prog 117 [pA d3,pI d4,pI 1] F λh8 y=>
∃d5,h8=(pB d5)/\
ab (!d5)
(stM b 0 [.list 1 .nil []] y λf7=>
stM d 0 [pB false] f7 λf8=>
M (some .ret) f8)
(∃d6 J,ay y j 0 1=some [.list 1 d6 J]/\
aW false 1 24 d6 J [[.list 4 .sh I]] y λf0 f9=>
stM j 0 [.list 1 f0 (J++[[.list 4 .sh I]])] f9 λg0=>
M none g0))
(λf4 v=>
PK f4
(n (wrap .i64 (i+1)) v)
(∃Z Q,ay v b 0 1=some [.list 1 Z Q]/\
∃a0,ay v d 0 1=some [pB a0]/\
K (.aA [.list 1 Z Q,pB a0]) v)
[])
h5)
(ab (l == 2)
(∃d7,ay a k 0 1=some [pA d7]/\
∃d8,ay a f 0 1=some [pI d8]/\
aa prog 180 [pA d7,.agg [pI l,pB p,pS q,.list 6 .sh r,.list 6 .sh s,pB t,.list 7 .sh m],.list 4 u e,pI d8] a λh9 w=>
∃d9,h9=(pB d9)/\
ab d9
(n (wrap .i64 (i+1)) w)
(∃e0,ay w k 0 1=some [pA e0]/\
∃e1,ay w f 0 1=some [pI e1]/\
aa prog 117 [pA e0,pI e1,pI 1] w λi0 z=>
∃e2,i0=(pB e2)/\
ab (!e2)
(stM b 0 [.list 1 .nil []] z λg1=>
stM d 0 [pB false] g1 λA=>
∃S R,ay A b 0 1=some [.list 1 S R]/\
∃a1,ay A d 0 1=some [pB a1]/\
K (.aA [.list 1 S R,pB a1]) A)
(∃e3 L,ay z j 0 1=some [.list 1 e3 L]/\
aW false 1 24 e3 L [[.list 4 .sh e]] z λe8 g3=>
stM j 0 [.list 1 e8 (L++[[.list 4 .sh e]])] g3 λg4=>
n (wrap .i64 (i+1)) g4)))
(∃b4,ay a k 0 1=some [pA b4]/\
∃b5,ay a f 0 1=some [pI b5]/\
aa prog 118 [pA b4,.list 7 b3 m,.list 4 u e,pI (wrap .i64 (b5+1))] a λi1 o=>
∃i7 b6 b7,i1=(.aA [.list 1 i7 b6,pB b7])/\
ab (!b7)
(stM b 0 [.list 1 .nil []] o λg5=>
stM d 0 [pB false] g5 λB=>
∃U T,ay B b 0 1=some [.list 1 U T]/\
∃a2,ay B d 0 1=some [pB a2]/\
K (.aA [.list 1 U T,pB a2]) B)
(ab (decide ((b6.length:Int)>0))
(n (wrap .i64 (i+1)) o)
(∃b8,ay o k 0 1=some [pA b8]/\
∃b9,ay o f 0 1=some [pI b9]/\
aa prog 117 [pA b8,pI b9,pI 1] o λi2 C=>
∃c0,i2=(pB c0)/\
ab (!c0)
(stM b 0 [.list 1 .nil []] C λg6=>
stM d 0 [pB false] g6 λD=>
∃W V,ay D b 0 1=some [.list 1 W V]/\
∃a3,ay D d 0 1=some [pB a3]/\
K (.aA [.list 1 W V,pB a3]) D)
(∃c1 G,ay C j 0 1=some [.list 1 c1 G]/\
aW false 1 24 c1 G [[.list 4 .sh e]] C λe9 g7=>
stM j 0 [.list 1 e9 (G++[[.list 4 .sh e]])] g7 λg8=>
n (wrap .i64 (i+1)) g8))))))
(∃b0 a9,ay a j 0 1=some [.list 1 b0 a9]/\
∃b1,ay a f 0 1=some [pI b1]/\
cV prog 181 [.list 7 .nr [[pI l,pB p,pS q,.list 6 .sh r,.list 6 .sh s,pB t,.list 7 .sh m]]] a λi3 h0=>
∃b2,i3=(pI b2)/\
stM f 0 [pI (wrap .i64 (b1+b2))] (Mem.or a h0) λh1=>
f1 ((b0,a9),(wrap .i64 (g.2+1))) h1))
(0) h3)
(stM b 0 [.list 1 g.1.1 g.1.2] a8 λh2=>
stM d 0 [pB true] h2 λE=>
∃Y X,ay E b 0 1=some [.list 1 Y X]/\
∃a4,ay E d 0 1=some [pB a4]/\
K (.aA [.list 1 Y X,pB a4]) E))
((.nr,[[.list 4 .sh O]]),0) g9):aa prog 118 [pA N,.list 7 e4 x,.list 4 e5 O,pI P] u0 K:=
VC [12] [(3,⟨[(10,.one (.list 1)),(24,.one (.raw (.int .i64)))],[]⟩),(7,⟨[(30,.one (.raw (.int .i64)))],[]⟩)] [] [(78,[88,121])] [] [] [] func118 h
theorem wy.c{b:Option Addr}{d:Int}(h:
nP b λs v=>
∃f,ay u0 s (v+1) 1=some [pA f]/\
aa prog 182 [pA f,pI d] u0 λA a=>
∃g i j D k E l m F n e o p,A=(.aA [.agg [pI g,pB i,pS j,.list 6 D k,.list 6 E l,pB m,.list 7 F n,pI e,pA o],pB p])/\
ab (!p)
(K (pB false) a)
(ab (((wrap .i64 (e-1)):Int) == 0)
(nP b λt w=>
∃q,ay a t (w+1) 1=some [pA q]/\
aa prog 183 [pA q,pI d] a λB y=>
∃G H I L J N M O Q P R S T,B=(.aA [.agg [pI G,pB H,pS I,.list 6 L J,.list 6 N M,pB O,.list 7 Q P,pI R,pA S],pB T])/\
K (pB true) y)
(nP b λu x=>
∃r,ay a u (x+1) 1=some [pA r]/\
aa prog 169 [pA r,pI d,.agg [pI g,pB i,pS j,.list 6 .sh k,.list 6 .sh l,pB m,.list 7 .sh n,pI (wrap .i64 (e-1)),pA o]] a λC z=>
∃U,C=(pB U)/\
K (pB true) z))):aa prog 119 [pA b,pI d] u0 K:=
VC [5] [] [] [] [] [] [] func119 h
theorem I_.c{d a:Int}{b:ByteArray}(h:
ab (d == 1)
(ab ((((ByteArray.size b:Nat):Int):Int) == 1)
((0:Int)<=0/\∃Tw:UInt8,b[toNat 0]?=some Tw/\
aa prog 185 [.raw (.int .u8 ((UInt8.toNat Tw:Nat):Int))] u0 λj e=>
∃f,j=(pB f)/\
ab f
(ab (decide (a>=1))
(K (pB (decide (a<=1048576))) e)
(K (pB false) e))
(K (pB false) e))
(K (pB false) u0))
(ab (d == 2)
(ab (aK b ⟨#[]⟩)
(ab (decide (a>=(-2147483647)))
(K (pB (decide (a<=2147483647))) u0)
(K (pB false) u0))
(K (pB false) u0))
(ab (d == 3)
(ab (a == 0)
(aa prog 186 [pS b] u0 λk i=>
∃g,k=(pB g)/\
K (pB g) i)
(K (pB false) u0))
(K (pB false) u0)))):aa prog 122 [.agg [pI d,pS b,pI a]] u0 K:=
VC [1] [] [] [] [] [] [] func122 h
theorem yh.c{a:Option Addr}{i:Int}(h:
nP a λY a1=>
∃o,ay u0 Y a1 1=some [pA o]/\
aa prog 190 [pA o,pI i] u0 λa9 a4=>
∃p q r s t u v w x y z A B,a9=(.aA [.agg [pI p,pS q,pI r,pI s,pS t,pI u,pI v,pS w,pI x,pB y,pB z,pI A],pB B])/\
cg a4 88 [pI 0,pS ⟨#[]⟩,pI 0,pI 0,pS ⟨#[]⟩,pI 0,pI 0,pS ⟨#[]⟩,pI 0,pB false,pB false,pI 0] λj a5=>
stM j 0 [pI p,pS q,pI r,pI s,pS t,pI u,pI v,pS w,pI x,pB y,pB z,pI A] a5 λk=>
ab (!B)
(K (.aA [.list 1 .nil [],pI 4]) k)
(cg k 51 [.list 1 .nil []] λb l=>
nP a λZ a2=>
∃C,ay l Z (a2+1) 1=some [pA C]/\
aa prog 167 [pA C] l λb0 a6=>
∃D E F,b0=(.fn D E F)/\
bu prog (.fn D E F) (λb2 g m=>
∃e b3 b4 b5 b7 b6 b9 b8 c0 c2 c1 c3 G,b2=[pI e,.agg [pI b3,pB b4,pS b5,.list 6 b7 b6,.list 6 b9 b8,pB c0,.list 7 c2 c1,pI c3,pA G]]/\
∃H I J L M N O P Q R S T,ay m j 0 12=some [pI H,pS I,pI J,pI L,pS M,pI N,pI O,pS P,pI Q,pB R,pB S,pI T]/\
aa prog 191 [pA G,.agg [pI H,pS I,pI J,pI L,pS M,pI N,pI O,pS P,pI Q,pB R,pB S,pI T]] m λb1 d=>
∃U,b1=(pB U)/\
ab U
(∃V f,ay d b 0 1=some [.list 1 V f]/\
aW false 1 8 V f [[pI e]] d λa0 a7=>
stM b 0 [.list 1 a0 (f++[[pI e]])] a7 λa8=>
g none a8)
(g none d))
(λa3 n=>
PK a3
(∃X W,ay n b 0 1=some [.list 1 X W]/\
K (.aA [.list 1 X W,pI 0]) n)
(False)
[])
a6)):aa prog 132 [pA a,pI i] u0 K:=
VC [10] [] [] [(27,[191,196])] [] [] [] func132 h
end Go.Proofs.YthaeiehophlooaaGreat
