import Derived.Test.YthaeiehophlooaaGreatB06
import Derived.Test.YthaeiehophlooaaGreatChecked
open Go.IntKind (wrap)
open Int (tmod toNat)
open List (drop flatten replicate take)
set_option linter.all false
namespace Go.Proofs.YthaeiehophlooaaGreat
open Go.Proofs.Tryz Go.aP
variable {u0:Mem} {K:Kq}
set_option maxRecDepth 100000
def ou.c{d e:Int}{t:Fl}{j:Lq}(h:
aa prog 16 [pI d,pI e] u0 λd6 l=>
∃m n,d6=(.aB [pA m,pI n])/\
cg (α:=Bool) (λi=>
ab (decide (d<1))
(i true l)
(ab (decide (d>1024))
(i true l)
(ab (decide (e<1))
(i true l)
(i (decide (e>1024)) l))))
(λc2 f=>
ab c2
(ab (n == 1)
(ab (Option.isNone m)
(aa prog 7 [] f λd7 c8=>
∃J,d7=(pB J)/\
K (pB J) c8)
(K (pB false) f))
(K (pB false) f))
(ab (n != 0)
(K (pB false) f)
(ab (Option.isNone m)
(K (pB false) f)
(aa prog 17 [.list 6 t j,pI 14] f λe8 D=>
∃L,e8=(pB L)/\
ab L
(aa prog 7 [] D λf3 d3=>
∃M,f3=(pB M)/\
K (pB M) d3)
(cl D 53 [pI (if 60<d then 60 else d),pI e,.list 3 .nil [],.list 12 .nil [],.list 1 .nil [],.list 1 .nil []] λa E=>
cg (α:=Option Addr×Int) (λs=>
ab (decide (d>60))
(aa prog 16 [pI 60,pI e] E λf4 d5=>
∃N O,f4=(.aB [pA N,pI O])/\
s (N,O) d5)
(s (m,n) E))
(λb d4=>
ak (α:=Int) (λc1 k g=>
ab (decide (k<(j.length:Int)))
(ab (b.2 != 0)
(K (pB false) g)
(0<=k/\∃(u:List PV),(j)[toNat k]?=some u/\
∃P Q g0 R g1 S g2 T g3 U,az u 0 6=some [pI P,pS Q,.list 7 g0 R,.list 19 g1 S,.list 12 g2 T,.list 1 g3 U]/\
aa prog 18 [pA b.1,pP a 0,.agg [pI P,pS Q,.list 7 .sh R,.list 19 .sh S,.list 12 .sh T,.list 1 .sh U]] g λf5 F=>
∃V,f5=(pB V)/\
ab (!V)
(K (pB false) F)
(aa prog 19 [pA b.1,pP a 0] F λf6 v=>
∃W,f6=(pB W)/\
ab (!W)
(K (pB false) v)
(c1 (wrap .i64 (k+1)) v))))
((∃b1 a6,ay g a 2 1=some [.list 3 b1 a6]/\
(aa prog 22 [pA b.1] g λf7 c3=>
∃X Y Z,f7=(.fn X Y Z)/\
(aa prog 21 [.fn X Y Z] c3 λf8 c4=>
∃a5 a0,f8=(.list 3 a5 a0)/\
(aa prog 20 [.list 3 a5 a0,.list 3 b1 a6] c4 λf9 w=>
∃b2,f9=(pB b2)/\
ab b2
((aa prog 23 [pA b.1] w λd8 c5=>
∃b5,d8=(pI b5)/\
(aa prog 24 [pP a 0] c5 λd9 x=>
∃b8,d9=(pI b8)/\
(ab (b5 == b8)
(aa prog 7 [] x λe0 c6=>
∃G,e0=(pB G)/\
K (pB G) c6)
(K (pB false) x))/\
True)/\
True)/\
True)
((((K (pB false) w)/\
True)/\
True)/\
True))/\
True)/\
True)/\
True)/\
(aa prog 22 [pA b.1] g λe1 o=>
∃p q r,e1=(.fn p q r)/\
(∃a8 a7,ay o a 2 1=some [.list 3 a8 a7]/\
(aa prog 21 [.fn p q r] o λe2 c7=>
∃a2 a1,e2=(.list 3 a2 a1)/\
(aa prog 20 [.list 3 a2 a1,.list 3 a8 a7] c7 λe3 y=>
∃b3,e3=(pB b3)/\
ab b3
((aa prog 23 [pA b.1] y λe4 c9=>
∃b6,e4=(pI b6)/\
(aa prog 24 [pP a 0] c9 λe5 z=>
∃b9,e5=(pI b9)/\
(ab (b6 == b9)
(aa prog 7 [] z λe6 d0=>
∃H,e6=(pB H)/\
K (pB H) d0)
(K (pB false) z))/\
True)/\
True)/\
True)
((((K (pB false) y)/\
True)/\
True)/\
True))/\
True)/\
True)/\
(aa prog 21 [.fn p q r] o λe7 A=>
∃a4 a3,e7=(.list 3 a4 a3)/\
∃b0 a9,ay A a 2 1=some [.list 3 b0 a9]/\
(aa prog 20 [.list 3 a4 a3,.list 3 b0 a9] A λe9 B=>
∃b4,e9=(pB b4)/\
ab b4
((aa prog 23 [pA b.1] B λf0 d1=>
∃b7,f0=(pI b7)/\
(aa prog 24 [pP a 0] d1 λf1 C=>
∃c0,f1=(pI c0)/\
(ab (b7 == c0)
(aa prog 7 [] C λf2 d2=>
∃I,f2=(pB I)/\
K (pB I) d2)
(K (pB false) C))/\
True)/\
True)/\
True)
((((K (pB false) B)/\
True)/\
True)/\
True))/\
True)/\
True)/\
True))
(0) d4))))))):aa prog 4 [pI d,pI e,.list 6 t j] u0 K:=
VC [1000016] [(12,⟨[(10,.one (.raw (.int .i64)))],[]⟩)] [(3,⟨[(30,.one (.raw .bool))],[]⟩),(11,⟨[(7,.one (.raw .ptr)),(8,.one (.raw (.int .i64)))],[]⟩)] [] [] [] [] func4 h
def uW.c{e:ByteArray}{d j:Fl}{b f:Lq}(h:
aa prog 25 [.list 7 d b,pI 40,pI 0] u0 λl a=>
∃i,l=(pI i)/\
ab (decide (i>40))
(K (pB true) a)
(ab (decide ((f.length:Int)>40))
(K (pB true) a)
(ab (decide ((((ByteArray.size e:Nat):Int):Int)>100))
(K (pB true) a)
(aa prog 26 [.list 7 d b] a λm k=>
∃g,m=(pB g)/\
K (pB g) k)))):aa prog 5 [.agg [pS e,.list 7 d b,.list 19 j f]] u0 K:=
VC [1] [] [] [] [] [] [] func5 h
def sF.c{b:Fl}{a:Lq}{d:Int}(h:
aa prog 27 [.list 12 b a,pI d] u0 λg f=>
∃e,g=(pB e)/\
K (pB e) f):aa prog 6 [.list 12 b a,pI d] u0 K:=
VC [] [] [] [] [] [] [] func6 h
def sy.c{m:ByteArray}{i P:Fl}{b d:Lq}(h:
aa prog 35 [.agg [pS m,.list 7 .sh b,.list 19 .sh d]] u0 λR j=>
∃u l,R=(.aB [pI u,pI l])/\
ab (l != 0)
(K (.aB [pI u,pI l]) j)
((0:Int)<=0/\∃(o:List PV),(b)[toNat 0]?=some o/\
∃v,az o 0 1=some [pI v]/\
ab (v != 1)
(K (.aB [pI 0,pI 9]) j)
(aa prog 36 [.list 7 i b,pI 0,.list 1 .nil []] j λS q=>
∃f e w x,S=(.aB [.list 1 f e,pI w,pB x])/\
ab (!x)
(K (.aB [pI w,pI 6]) q)
(aa prog 37 [.list 7 i b] q λT Q=>
∃g,T=(pI g)/\
ak (α:=Int) (λn a r=>
ab (decide (a<(d.length:Int)))
(0<=a/\∃(p:List PV),(d)[toNat a]?=some p/\
∃X y z A B C D E F G H I J L Y Z a0 a1 a2,az p 0 19=some [pS X,pS y,pI z,pS A,pI B,pI C,pS D,pI E,pS F,pI G,pS H,pI I,pS J,pI L,pI Y,pS Z,pI a0,pS a1,pI a2]/\
aa prog 38 [.agg [pS y,pI z,pS A,pI B],.list 1 f e] r λU k=>
∃M,U=(pB M)/\
ab (!M)
(K (.aB [pI (wrap .i64 (g+a)),pI 6]) k)
(ab (C != 0)
(aa prog 38 [.agg [pS D,pI E,pS F,pI G],.list 1 f e] k λV s=>
∃N,V=(pB N)/\
ab (!N)
(K (.aB [pI (wrap .i64 (g+a)),pI 6]) s)
(aa prog 38 [.agg [pS H,pI I,pS J,pI L],.list 1 f e] s λW t=>
∃O,W=(pB O)/\
ab (!O)
(K (.aB [pI (wrap .i64 (g+a)),pI 6]) t)
(n (wrap .i64 (a+1)) t)))
(n (wrap .i64 (a+1)) k)))
(K (.aB [pI (-1),pI 0]) r))
(0) Q)))):aa prog 8 [.agg [pS m,.list 7 i b,.list 19 P d]] u0 K:=
VC [1,10] [(11,⟨[(9,.one (.raw (.int .i64)))],[]⟩)] [] [] [] [] [] func8 h
def ql.c{a:ByteArray}{d f:Fl}{b e:Lq}(h:
dh prog 39 [.list 7 d b] u0 λn g=>
∃l k,n=(.list 7 l k)/\
dh prog 40 [.list 19 f e] (Mem.or u0 g) λo m=>
∃j i,o=(.list 19 j i)/\
K (.agg [pS a,.list 7 l k,.list 19 j i]) (Mem.or (Mem.or u0 g) m)):aa prog 9 [.agg [pS a,.list 7 d b,.list 19 f e]] u0 K:=
VC [1,2] [] [] [] [] [] [] func9 h
def oz.c{a:ByteArray}{d f:Fl}{b e:Lq}(h:
dh prog 39 [.list 7 d b] u0 λp g=>
∃l n m,p=(pV l n m)/\
dh prog 40 [.list 19 f e] (Mem.or u0 g) λq o=>
∃i k j,q=(pV i k j)/\
K (.agg [pS a,pV l n m,pV i k j]) (Mem.or (Mem.or u0 g) o)):aa prog 9 [.agg [pS a,.list 7 d b,.list 19 f e]] u0 K:=
VC [1,2] [] [] [] [] [] [2,7,10,11] func9 h
def lu.c{f:Fn}{g i:List PV}(h:
cl u0 54 [.list 2 .nil []] λa r=>
bk prog (.fn f g i) (λu o j=>
∃b v d,u=[.agg [pS b,.list 1 v d]]/\
∃n e,ay j a 0 1=some [.list 2 n e]/\
aR false 2 40 n e [[pS b,.list 1 .sh d]] j λp s=>
stM a 0 [.list 2 p (e++[[pS b,.list 1 .sh d]])] s λt=>
o none t)
(λq k=>
PK q
(∃m l,ay k a 0 1=some [.list 2 m l]/\
K (.list 2 m l) k)
(False)
[])
r):aa prog 13 [.fn f g i] u0 K:=
VC [4] [] [] [(8,[57])] [] [] [] func13 h
def rD.c{s t:Fl}{b d:Lq}(h:
ab ((b.length:Int) != (d.length:Int))
(K (pB false) u0)
(ak (α:=Int) (λu a e=>
ab (decide (a<(b.length:Int)))
(0<=a/\∃(f:List PV),(b)[toNat a]?=some f/\
∃l,az f 0 1=some [pS l]/\
0<=a/\∃(g:List PV),(d)[toNat a]?=some g/\
∃m,az g 0 1=some [pS m]/\
ab (!aG l m)
(K (pB false) e)
(0<=a/\∃(i:List PV),(b)[toNat a]?=some i/\
∃o n,az i 1 1=some [.list 1 o n]/\
0<=a/\∃(j:List PV),(d)[toNat a]?=some j/\
∃q p,az j 1 1=some [.list 1 q p]/\
aa prog 46 [.list 1 o n,.list 1 q p] e λv k=>
∃r,v=(pB r)/\
ab (!r)
(K (pB false) k)
(u (wrap .i64 (a+1)) k)))
(K (pB true) e))
(0) u0)):aa prog 15 [.list 2 s b,.list 2 t d] u0 K:=
VC [] [(4,⟨[(5,.one (.raw (.int .i64)))],[]⟩)] [] [] [] [] [] func15 h
def Mp.c{a b:Int}(h:
ab (decide (a<1))
(K (.aB [pA none,pI 1]) u0)
(ab (decide (a>1024))
(K (.aB [pA none,pI 1]) u0)
(ab (decide (b<1))
(K (.aB [pA none,pI 1]) u0)
(ab (decide (b>1024))
(K (.aB [pA none,pI 1]) u0)
(cl u0 126 [pI 0,pB false,pS ⟨#[]⟩,.list 6 .nil [],.list 6 .nil [],pB false,.list 7 .nil [],pV none 0 0,.list 1 .nil [],.list 2 .nr [[.list 1 .sh [],.list 4 .sh []]],.list 1 .nil [],pI 0,.list 2 .nil [],.list 1 .nil []] λi k=>
aa prog 47 [] k λq l=>
∃d,q=(pA d)/\
aa prog 48 [.list 12 .nil []] l λr m=>
∃e,r=(pA e)/\
aa prog 49 [] m λs n=>
∃f,s=(pA f)/\
aa prog 50 [] n λt o=>
∃g,t=(pA g)/\
cl o 116 [pI a,pI b,pP i 0,pA d,pA e,pA f,pA g] λj p=>
K (.aB [pP j 0,pI 0]) p))))):aa prog 16 [pI a,pI b] u0 K:=
VC [] [] [] [] [] [] [2025007] func16 h
def sC.c{y:Fl}{b:Lq}{e:Int}(h:
ab (decide ((b.length:Int)>e))
(K (pB true) u0)
(ak (α:=Int) (λz a k=>
ab (decide (a<(b.length:Int)))
(0<=a/\∃(f:List PV),(b)[toNat a]?=some f/\
∃n D o E p,az f 1 3=some [pS n,.list 7 D o,.list 19 E p]/\
aa prog 5 [.agg [pS n,.list 7 .sh o,.list 19 .sh p]] k λA l=>
∃q,A=(pB q)/\
ab q
(K (pB true) l)
(0<=a/\∃(g:List PV),(b)[toNat a]?=some g/\
∃s r,az g 2 1=some [.list 7 s r]/\
aa prog 25 [.list 7 s r,pI 20,pI 0] l λB m=>
∃t,B=(pI t)/\
ab (decide (t>9))
(K (pB true) m)
(0<=a/\∃(i:List PV),(b)[toNat a]?=some i/\
∃v u,az i 4 1=some [.list 12 v u]/\
aa prog 6 [.list 12 v u,pI 8] m λC d=>
∃w,C=(pB w)/\
ab (!w)
(K (pB true) d)
(0<=a/\∃(j:List PV),(b)[toNat a]?=some j/\
∃F x,az j 5 1=some [.list 1 F x]/\
ab (decide ((x.length:Int)>20))
(K (pB true) d)
(z (wrap .i64 (a+1)) d)))))
(K (pB false) k))
(0) u0)):aa prog 17 [.list 6 y b,pI e] u0 K:=
VC [] [(4,⟨[(5,.one (.raw (.int .i64)))],[]⟩)] [] [] [] [] [] func17 h
def uR.c{b d:Option Addr}(h:
(aa prog 34 [pA b] u0 λy u=>
∃n o p,y=(.fn n o p)/\
(aa prog 13 [.fn n o p] u λz v=>
∃r q,z=(.list 2 r q)/\
(aa prog 58 [pA d] v λA w=>
∃t s,A=(.list 2 t s)/\
(aa prog 15 [.list 2 r q,.list 2 t s] w λB a=>
∃i,B=(pB i)/\
ab i
(nP d λe f=>
(∃F l,ay a e (f+2) 1=some [.list 3 F l]/\
(aa prog 59 [pA b] a λC x=>
∃j,C=(pI j)/\
K (pB (j == (l.length:Int))) x)/\
True)/\
(aa prog 59 [pA b] a λD g=>
∃k,D=(pI k)/\
∃E m,ay g e (f+2) 1=some [.list 3 E m]/\
K (pB (k == (m.length:Int))) g)/\
True)
(((K (pB false) a)/\
True)/\
(K (pB false) a)/\
True))/\
True)/\
True)/\
True)/\
True):aa prog 19 [pA b,pA d] u0 K:=
VC [1000001] [] [] [] [] [] [] func19 h
def uV.c{q r:Fl}{b d:Lq}(h:
ab ((b.length:Int) != (d.length:Int))
(K (pB false) u0)
(ak (α:=Int) (λs a g=>
ab (decide (a<(b.length:Int)))
(0<=a/\∃(e:List PV),(b)[toNat a]?=some e/\
∃j u k v l,az e 0 3=some [pS j,.list 7 u k,.list 19 v l]/\
0<=a/\∃(f:List PV),(d)[toNat a]?=some f/\
∃m w n x o,az f 0 3=some [pS m,.list 7 w n,.list 19 x o]/\
aa prog 52 [.agg [pS j,.list 7 .sh k,.list 19 .sh l],.agg [pS m,.list 7 .sh n,.list 19 .sh o]] g λt i=>
∃p,t=(pB p)/\
ab (!p)
(K (pB false) i)
(s (wrap .i64 (a+1)) i))
(K (pB true) g))
(0) u0)):aa prog 20 [.list 3 q b,.list 3 r d] u0 K:=
VC [] [(4,⟨[(5,.one (.raw (.int .i64)))],[]⟩)] [] [] [] [] [] func20 h
def my.c{g:Fn}{i j:List PV}(h:
cl u0 49 [.list 3 .nil []] λa s=>
bk prog (.fn g i j) (λv p k=>
∃b w d x e,v=[.agg [pS b,.list 7 w d,.list 19 x e]]/\
∃o f,ay k a 0 1=some [.list 3 o f]/\
aR false 3 64 o f [[pS b,.list 7 .sh d,.list 19 .sh e]] k λq t=>
stM a 0 [.list 3 q (f++[[pS b,.list 7 .sh d,.list 19 .sh e]])] t λu=>
p none u)
(λr l=>
PK r
(∃n m,ay l a 0 1=some [.list 3 n m]/\
K (.list 3 n m) l)
(False)
[])
s):aa prog 21 [.fn g i j] u0 K:=
VC [4] [] [] [(8,[25])] [] [] [] func21 h
def yN.c{a:Option Addr}(h:
K (.fn (.func 60) [] [.bt [pA a] 0]) u0):aa prog 22 [pA a] u0 K:=
VC [] [] [] [] [1] [] [] func22 h
def zX.c{l:Option Addr}(h:
cl u0 3 [pI 0] λa E=>
stM a 0 [pI 0] E λo=>
nP l λx B=>
∃q,ay o x (B+6) 1=some [pA q]/\
aa prog 61 [pA q] o λI F=>
∃r s t,I=(.fn r s t)/\
bk prog (.fn r s t) (λJ w G=>
∃L M O N Q P R g,J=[pS L,.agg [pS M,.list 7 O N,.list 19 Q P,.list 1 R g]]/\
ak (α:=Int) (λz b e=>
ab (decide (b<(g.length:Int)))
(0<=b/\∃(m:List PV),(g)[toNat b]?=some m/\
∃u,az m 0 1=some [pA u]/\
nP u λy C=>
∃S i,ay e y (C+10) 1=some [.list 1 S i]/\
ak (α:=Int) (λA d f=>
ab (decide (d<(i.length:Int)))
(0<=d/\∃(n:List PV),(i)[toNat d]?=some n/\
∃j,az n 0 1=some [pI j]/\
∃k,ay f a 0 1=some [pI k]/\
stM a 0 [pI (if j>k then j else k)] f λH=>
A (wrap .i64 (d+1)) H)
(z (wrap .i64 (b+1)) f))
(0) e)
(w none e))
(0) G)
(λD p=>
PK D
(∃v,ay p a 0 1=some [pI v]/\
K (pI v) p)
(False)
[])
F):aa prog 23 [pA l] u0 K:=
VC [5] [(5,⟨[(20,.one (.raw (.int .i64)))],[]⟩),(8,⟨[(29,.one (.raw (.int .i64)))],[]⟩)] [] [(15,[118,108])] [] [] [] func23 h
def pw.c{d:Option Addr}(h:
ak (α:=Int×Int) (λl a b=>
nP d λj m=>
∃p i,ay b j (m+5) 1=some [.list 1 p i]/\
ab (decide (a.2<(i.length:Int)))
(nP d λk n=>
∃o g,ay b k (n+5) 1=some [.list 1 o g]/\
0<=a.2/\∃(f:List PV),(g)[toNat a.2]?=some f/\
∃e,az f 0 1=some [pI e]/\
l ((if e>a.1 then e else a.1),(wrap .i64 (a.2+1))) b)
(K (pI a.1) b))
(0,0) u0):aa prog 24 [pA d] u0 K:=
VC [] [(3,⟨[(3,.one (.raw (.int .i64))),(4,.one (.raw (.int .i64)))],[]⟩)] [] [] [] [] [] func24 h
def ni.c{n:Fl}{d:Lq}{b e:Int}(h:
ab (decide (e>20))
(K (pI (wrap .i64 (b+1))) u0)
(cg (α:=Int) (λg=>
ak (α:=Int×Int) (λo a f=>
ab (decide (a.2<(d.length:Int)))
(ab (decide (a.1<=b))
(0<=a.2/\∃(i:List PV),(d)[toNat a.2]?=some i/\
∃l k,az i 6 1=some [.list 7 l k]/\
aa prog 25 [.list 7 l k,pI b,pI (wrap .i64 (e+1))] f λr q=>
∃m,r=(pI m)/\
o ((wrap .i64 (a.1+(wrap .i64 (1+m)))),(wrap .i64 (a.2+1))) q)
(g a.1 f))
(g a.1 f))
(0,0) u0)
(λj p=>
K (pI (if(wrap .i64 (b+1))<j then(wrap .i64 (b+1))else j)) p))):aa prog 25 [.list 7 n d,pI b,pI e] u0 K:=
VC [] [(5,⟨[(7,.one (.raw (.int .i64))),(8,.one (.raw (.int .i64)))],[]⟩)] [(8,⟨[(7,.one (.raw (.int .i64)))],[]⟩)] [] [] [] [] func25 h
def iE.c{t:Fl}{d:Lq}(h:
ak (α:=Int) (λu b a=>
ab (decide (b<(d.length:Int)))
(0<=b/\∃(g:List PV),(d)[toNat b]?=some g/\
∃y z l m e n f A p o,az g 0 7=some [pI y,pB z,pS l,.list 6 m e,.list 6 n f,pB A,.list 7 p o]/\
ab (decide ((((ByteArray.size l:Nat):Int):Int)>100))
(K (pB true) a)
(ab (decide ((e.length:Int)>10))
(K (pB true) a)
(ab (decide ((f.length:Int)>10))
(K (pB true) a)
(aa prog 63 [.list 6 m e] a λv i=>
∃q,v=(pB q)/\
ab q
(K (pB true) i)
(aa prog 63 [.list 6 n f] i λw j=>
∃r,w=(pB r)/\
ab r
(K (pB true) j)
(aa prog 26 [.list 7 p o] j λx k=>
∃s,x=(pB s)/\
ab s
(K (pB true) k)
(u (wrap .i64 (b+1)) k)))))))
(K (pB false) a))
(0) u0):aa prog 26 [.list 7 t d] u0 K:=
VC [4] [(2,⟨[(3,.one (.raw (.int .i64)))],[]⟩)] [] [] [] [] [] func26 h
def sE.c{m:Fl}{b:Lq}{e:Int}(h:
ab (decide ((b.length:Int)>e))
(K (pB false) u0)
(ak (α:=Int) (λn a d=>
ab (decide (a<(b.length:Int)))
(0<=a/\∃(f:List PV),(b)[toNat a]?=some f/\
∃j,az f 1 1=some [pS j]/\
ab (decide ((((ByteArray.size j:Nat):Int):Int)>100))
(K (pB false) d)
(0<=a/\∃(g:List PV),(b)[toNat a]?=some g/\
∃k,az g 4 1=some [pS k]/\
ab (decide ((((ByteArray.size k:Nat):Int):Int)>100))
(K (pB false) d)
(0<=a/\∃(i:List PV),(b)[toNat a]?=some i/\
∃l,az i 7 1=some [pS l]/\
ab (decide ((((ByteArray.size l:Nat):Int):Int)>100))
(K (pB false) d)
(n (wrap .i64 (a+1)) d))))
(K (pB true) d))
(0) u0)):aa prog 27 [.list 12 m b,pI e] u0 K:=
VC [] [(4,⟨[(5,.one (.raw (.int .i64)))],[]⟩)] [] [] [] [] [] func27 h
def zY.c{a:ByteArray}(h:
K (.agg [pI 3,pS a,pI 0]) u0):aa prog 29 [pS a] u0 K:=
VC [2] [] [] [] [] [] [] func29 h
def z_.c{a:ByteArray}{b:Int}(h:
K (.agg [pI 1,pS a,pI b]) u0):aa prog 30 [pS a,pI b] u0 K:=
VC [4] [] [] [] [] [] [] func30 h
def zZ.c{a:Int}(h:
K (.agg [pI 2,pS ⟨#[]⟩,pI a]) u0):aa prog 31 [pI a] u0 K:=
VC [2] [] [] [] [] [] [] func31 h
def CP.c{a:Option Addr}(h:
K (.fn (.func 83) [] [.bt [pA a] 0]) u0):aa prog 34 [pA a] u0 K:=
VC [] [] [] [] [1] [] [] func34 h
def sx.c{j:ByteArray}{g M:Fl}{f a:Lq}(h:
aa prog 84 [pS j] u0 λO l=>
∃p,O=(pB p)/\
ab (!p)
(K (.aB [pI (-1),pI 2]) l)
(aa prog 37 [.list 7 g f] l λP d=>
∃e,P=(pI e)/\
ab (decide (e<1))
(K (.aB [pI (-1),pI 7]) d)
(ab (decide (e>16))
(K (.aB [pI (-1),pI 7]) d)
(ab (decide ((a.length:Int)<1))
(K (.aB [pI (-1),pI 7]) d)
(ab (decide ((a.length:Int)>16))
(K (.aB [pI (-1),pI 7]) d)
(aa prog 85 [.list 7 g f,pI 0,pI 0] d λQ m=>
∃q i,Q=(.aB [pI q,pI i])/\
ab (i != 0)
(K (.aB [pI q,pI i]) m)
(ak (α:=Int) (λN b n=>
ab (decide (b<(a.length:Int)))
(0<=b/\∃(k:List PV),(a)[toNat b]?=some k/\
∃r s t u v w x y z A B C D E F G H I J,az k 0 19=some [pS r,pS s,pI t,pS u,pI v,pI w,pS x,pI y,pS z,pI A,pS B,pI C,pS D,pI E,pI F,pS G,pI H,pS I,pI J]/\
aa prog 86 [.agg [pS r,pS s,pI t,pS u,pI v,pI w,pS x,pI y,pS z,pI A,pS B,pI C,pS D,pI E,pI F,pS G,pI H,pS I,pI J]] n λR o=>
∃L,R=(pB L)/\
ab (!L)
(K (.aB [pI (wrap .i64 (e+b)),pI 9]) o)
(N (wrap .i64 (b+1)) o))
(K (.aB [pI (-1),pI 0]) n))
(0) m))))))):aa prog 35 [.agg [pS j,.list 7 g f,.list 19 M a]] u0 K:=
VC [1] [(10,⟨[(7,.one (.raw (.int .i64)))],[]⟩)] [] [] [] [] [] func35 h
def kV.c{L j:Fl}{b i:Lq}{g:Int}(h:
ak (α:=Int×(Fl×Lq)×Int) (λM a e=>
ab (decide (a.2.2<(b.length:Int)))
(cg (α:=(Fl×Lq)) (λd=>
0<=a.2.2/\∃(k:List PV),(b)[toNat a.2.2]?=some k/\
∃r,az k 0 1=some [pI r]/\
ab (r == 3)
(0<=a.2.2/\∃(l:List PV),(b)[toNat a.2.2]?=some l/\
∃t s,az l 6 1=some [.list 7 t s]/\
aa prog 36 [.list 7 t s,pI (wrap .i64 (a.1+1)),.list 1 a.2.1.1 a.2.1.2] e λP q=>
∃T S u v,P=(.aB [.list 1 T S,pI u,pB v])/\
ab (!v)
(K (.aB [.list 1 .nil [],pI u,pB false]) q)
(d (a.2.1.1,a.2.1.2) q))
(0<=a.2.2/\∃(m:List PV),(b)[toNat a.2.2]?=some m/\
∃w x y U z V A B W C,az m 0 7=some [pI w,pB x,pS y,.list 6 U z,.list 6 V A,pB B,.list 7 W C]/\
aa prog 87 [.agg [pI w,pB x,pS y,.list 6 .sh z,.list 6 .sh A,pB B,.list 7 .sh C],.list 1 a.2.1.1 a.2.1.2] e λQ f=>
∃E D F,Q=(.aB [.list 1 E D,pB F])/\
ab (!F)
(K (.aB [.list 1 .nil [],pI a.1,pB false]) f)
(0<=a.2.2/\∃(n:List PV),(b)[toNat a.2.2]?=some n/\
∃G,az n 0 1=some [pI G]/\
ab (G == 1)
(d (E,D) f)
(d (a.2.1.1,a.2.1.2) f))))
(λp N=>
0<=a.2.2/\∃(o:List PV),(b)[toNat a.2.2]?=some o/\
∃I H,az o 6 1=some [.list 7 I H]/\
aa prog 37 [.list 7 I H] N λR O=>
∃J,R=(pI J)/\
M ((wrap .i64 (a.1+(wrap .i64 (1+J)))),(p.1,p.2),(wrap .i64 (a.2.2+1))) O))
(K (.aB [.list 1 a.2.1.1 a.2.1.2,pI (-1),pB true]) e))
(g,(j,i),0) u0):aa prog 36 [.list 7 L b,pI g,.list 1 j i] u0 K:=
VC [] [(2,⟨[(1,.one (.raw (.int .i64))),(2,.one (.list 1)),(9,.one (.raw (.int .i64)))],[]⟩)] [(13,⟨[(2,.one (.list 1))],[]⟩)] [] [] [] [] func36 h
def mw.c{j:Fl}{b:Lq}(h:
ak (α:=Int×Int) (λk a e=>
ab (decide (a.2<(b.length:Int)))
(0<=a.2/\∃(d:List PV),(b)[toNat a.2]?=some d/\
∃g f,az d 6 1=some [.list 7 g f]/\
aa prog 37 [.list 7 g f] e λm l=>
∃i,m=(pI i)/\
k ((wrap .i64 (a.1+(wrap .i64 (1+i)))),(wrap .i64 (a.2+1))) l)
(K (pI a.1) e))
(0,0) u0):aa prog 37 [.list 7 j b] u0 K:=
VC [] [(3,⟨[(3,.one (.raw (.int .i64))),(4,.one (.raw (.int .i64)))],[]⟩)] [] [] [] [] [] func37 h
def uK.c{a g:ByteArray}{f i:Int}{d:Fl}{b:Lq}(h:
ab (aG a ⟨#[]⟩)
(K (pB true) u0)
(aa prog 88 [.list 1 d b,pS a] u0 λk j=>
∃e,k=(pB e)/\
K (pB e) j)):aa prog 38 [.agg [pS a,pI f,pS g,pI i],.list 1 d b] u0 K:=
VC [2] [] [] [] [] [] [] func38 h
def ja.c{u:Fl}{b:Lq}(h:
ak (α:=(Fl×Lq)×Int) (λw a m=>
ab (decide (a.2<(b.length:Int)))
(0<=a.2/\∃(l:List PV),(b)[toNat a.2]?=some l/\
∃n o p A q B r s C t,az l 0 7=some [pI n,pB o,pS p,.list 6 A q,.list 6 B r,pB s,.list 7 C t]/\
aa prog 89 [.agg [pI n,pB o,pS p,.list 6 .sh q,.list 6 .sh r,pB s,.list 7 .sh t]] m λz x=>
∃d e f D g E i j F k,z=(.agg [pI d,pB e,pS f,.list 6 D g,.list 6 E i,pB j,.list 7 F k])/\
aR false 7 112 a.1.1 a.1.2 [[pI d,pB e,pS f,.list 6 .sh g,.list 6 .sh i,pB j,.list 7 .sh k]] x λv y=>
w ((v,(a.1.2++[[pI d,pB e,pS f,.list 6 .sh g,.list 6 .sh i,pB j,.list 7 .sh k]])),(wrap .i64 (a.2+1))) y)
(K (.list 7 a.1.1 a.1.2) m))
((.nil,[]),0) u0):aa prog 39 [.list 7 u b] u0 K:=
VC [] [(3,⟨[(3,.one (.list 7)),(4,.one (.raw (.int .i64)))],[]⟩)] [] [] [] [] [] func39 h
def h_.c{A:Fl}{b:Lq}(h:
ak (α:=(Option Addr×Nat×Nat)×Int) (λB a e=>
ab (decide (a.2<(b.length:Int)))
(0<=a.2/\∃(d:List PV),(b)[toNat a.2]?=some d/\
∃f g i I j J k l L m,az d 0 7=some [pI f,pB g,pS i,.list 6 I j,.list 6 J k,pB l,.list 7 L m]/\
aa prog 89 [.agg [pI f,pB g,pS i,.list 6 .sh j,.list 6 .sh k,pB l,.list 7 .sh m]] e λH F=>
∃n o p q s r t v u w x z y,H=(.agg [pI n,pB o,pS p,pV q s r,pV t v u,pB w,pV x z y])/\
eB 7 112 84 a.1.1 a.1.2.1 a.1.2.2 (.list 7 .nr [[pI n,pB o,pS p,pV q s r,pV t v u,pB w,pV x z y]]) F λC E D G=>
B ((C,E,D),(wrap .i64 (a.2+1))) G)
(K (pV a.1.1 a.1.2.1 a.1.2.2) e))
((none,0,0),0) u0):aa prog 39 [.list 7 A b] u0 K:=
VC [] [(3,⟨[(3,.one (.raw .slice)),(4,.one (.raw (.int .i64)))],[]⟩)] [] [] [] [] [2,3,11,16,18,19] func39 h
def mJ.c{b:Fl}{a:Lq}(h:
aR false 19 224 .nil [] a u0 λd e=>
K (.list 19 d ([]++a)) e):aa prog 40 [.list 19 b a] u0 K:=
VC [] [] [] [] [] [] [] func40 h
def lA.c{b:Fl}{a:Lq}(h:
eB 19 224 43 none 0 0 (.list 19 b a) u0 λd f e g=>
K (pV d f e) g):aa prog 40 [.list 19 b a] u0 K:=
VC [] [] [] [] [] [] [2,4] func40 h
def qh.c{b:Option Addr}{d:ByteArray}{S T:Fl}{j k:Lq}(h:
aa prog 8 [.agg [pS d,.list 7 .sh j,.list 19 .sh k]] u0 λe5 A=>
∃f3 v,e5=(.aB [pI f3,pI v])/\
ab (v != 0)
(K (pI v) A)
(aa prog 90 [pA b,pS d] A λe6 B=>
∃f4 I,e6=(.aB [pI f4,pB I])/\
ab I
(K (pI 3) B)
(aa prog 91 [pA b,.agg [pS d,.list 7 .sh j,.list 19 .sh k]] B λe7 G=>
∃f5 r s J,e7=(.aB [.list 3 f5 r,pI s,pB J])/\
ab (!J)
(K (pI 25) G)
(ak (α:=Int×Int) (λb9 l n=>
nP b λU c1=>
∃f6 L,ay n U (c1+4) 1=some [.list 1 f6 L]/\
ab (decide (l.2<(L.length:Int)))
(nP b λV c2=>
∃f7 M,ay n V (c2+4) 1=some [.list 1 f7 M]/\
0<=l.2/\∃(y:List PV),(M)[toNat l.2]?=some y/\
∃f8 N,az y 0 1=some [.list 3 f8 N]/\
b9 ((wrap .i64 (l.1+(N.length:Int))),(wrap .i64 (l.2+1))) n)
(nP b λa0 c7=>
∃O,ay n a0 (c7+1) 1=some [pI O]/\
ab (decide (l.1>O))
(K (pI 26) n)
(cg (α:=Int) (λw=>
ak (α:=Int) (λc0 m q=>
nP b λa1 c8=>
∃f9 P,ay q a1 (c8+2) 1=some [.list 3 f9 P]/\
ab (decide (m<(P.length:Int)))
(nP b λa2 c9=>
∃g0 Q,ay q a2 (c9+2) 1=some [.list 3 g0 Q]/\
0<=m/\∃(z:List PV),(Q)[toNat m]?=some z/\
∃R,az z 0 1=some [pS R]/\
ab (Op.bytesLess (ByteArray.toList R) (ByteArray.toList d))
(c0 (wrap .i64 (m+1)) q)
(w m q))
(w m q))
(0) n)
(λa u=>
cg (α:=(Fl×Lq)) (λx=>
nP b λa3 d0=>
∃g1 i,ay u a3 (d0+2) 1=some [.list 3 g1 i]/\
(0:Int)<=(0:Int)/\0<=a/\a<=(i.length:Int)/\
(aR true 3 64 .nil [] (drop (toNat (0:Int)) (take (toNat a) i)) u λb7 e2=>
aR false 3 64 b7 ([]++(drop (toNat (0:Int)) (take (toNat a) i))) [[pS d,.list 7 .sh j,.list 19 .sh k]] e2 λa8 e3=>
x (a8,(([]++(drop (toNat (0:Int)) (take (toNat a) i)))++[[pS d,.list 7 .sh j,.list 19 .sh k]])) e3)/\
(aR true 3 64 .nil [] (drop (toNat (0:Int)) (take (toNat a) i)) u λb8 e4=>
aR false 3 64 b8 ([]++(drop (toNat (0:Int)) (take (toNat a) i))) [[pS d,.list 7 .sh j,.list 19 .sh k]] e4 λa9 d5=>
x (a9,(([]++(drop (toNat (0:Int)) (take (toNat a) i)))++[[pS d,.list 7 .sh j,.list 19 .sh k]])) d5))
(λt H=>
nP b λa4 d1=>
∃e8 e,ay H a4 (d1+2) 1=some [.list 3 e8 e]/\
0<=a/\a<=(e.length:Int)/\(e.length:Int)<=(e.length:Int)/\
aR false 3 64 t.1 t.2 (drop (toNat a) (take (toNat (e.length:Int)) e)) H λb0 d6=>
nP b λa5 d2=>
stM a5 (d2+2) [.list 3 b0 (t.2++(drop (toNat a) (take (toNat (e.length:Int)) e)))] d6 λC=>
nP b λa6 d3=>
∃e9 o,ay C a6 (d3+4) 1=some [.list 1 e9 o]/\
(0:Int)<=(0:Int)/\0<=a/\a<=(o.length:Int)/\
aR false 1 24 .nil [] (drop (toNat (0:Int)) (take (toNat a) o)) C λb1 d7=>
aR false 1 24 b1 ([]++(drop (toNat (0:Int)) (take (toNat a) o))) [[.list 3 .sh r]] d7 λb2 D=>
nP b λa7 d4=>
∃f0 f,ay D a7 (d4+4) 1=some [.list 1 f0 f]/\
0<=a/\a<=(f.length:Int)/\(f.length:Int)<=(f.length:Int)/\
aR false 1 24 b2 (([]++(drop (toNat (0:Int)) (take (toNat a) o)))++[[.list 3 .sh r]]) (drop (toNat a) (take (toNat (f.length:Int)) f)) D λb3 d8=>
nP b λW c3=>
stM W (c3+4) [.list 1 b3 ((([]++(drop (toNat (0:Int)) (take (toNat a) o)))++[[.list 3 .sh r]])++(drop (toNat a) (take (toNat (f.length:Int)) f)))] d8 λE=>
nP b λX c4=>
∃f1 p,ay E X (c4+5) 1=some [.list 1 f1 p]/\
(0:Int)<=(0:Int)/\0<=a/\a<=(p.length:Int)/\
aR false 1 8 .nil [] (drop (toNat (0:Int)) (take (toNat a) p)) E λb4 d9=>
aR false 1 8 b4 ([]++(drop (toNat (0:Int)) (take (toNat a) p))) [[pI s]] d9 λb5 F=>
nP b λY c5=>
∃f2 g,ay F Y (c5+5) 1=some [.list 1 f2 g]/\
0<=a/\a<=(g.length:Int)/\(g.length:Int)<=(g.length:Int)/\
aR false 1 8 b5 (([]++(drop (toNat (0:Int)) (take (toNat a) p)))++[[pI s]]) (drop (toNat a) (take (toNat (g.length:Int)) g)) F λb6 e0=>
nP b λZ c6=>
stM Z (c6+5) [.list 1 b6 ((([]++(drop (toNat (0:Int)) (take (toNat a) p)))++[[pI s]])++(drop (toNat a) (take (toNat (g.length:Int)) g)))] e0 λe1=>
K (pI 0) e1)))))
((r.length:Int),0) G)))):aa prog 41 [pA b,.agg [pS d,.list 7 S j,.list 19 T k]] u0 K:=
VC [3] [(12,⟨[(12,.one (.raw (.int .i64))),(13,.one (.raw (.int .i64)))],[]⟩),(18,⟨[(14,.one (.raw (.int .i64)))],[]⟩)] [(20,⟨[(14,.one (.raw (.int .i64)))],[]⟩),(21,⟨[(15,.one (.list 3))],[]⟩)] [] [] [] [] func41 h
def rC.c{g:Option Addr}{c2 c3:Fl}{e l:Lq}(h:
ak (α:=Int) (λc9 f m=>
ab (decide (f<(e.length:Int)))
(0<=f/\∃(S:List PV),(e)[toNat f]?=some S/\
∃a2 a3 a4 a5 a6 a7 a8 a9 b0 b1 b2 b3,az S 0 12=some [pI a2,pS a3,pI a4,pI a5,pS a6,pI a7,pI a8,pS a9,pI b0,pB b1,pB b2,pI b3]/\
aa prog 92 [.agg [pI a2,pS a3,pI a4,pI a5,pS a6,pI a7,pI a8,pS a9,pI b0,pB b1,pB b2,pI b3]] m λe1 n=>
∃b4,e1=(pB b4)/\
ab (!b4)
(K (pI 9) n)
(0<=f/\∃(T:List PV),(e)[toNat f]?=some T/\
∃b5,az T 11 1=some [pI b5]/\
ab (decide (b5<1))
(K (pI 9) n)
(c9 (wrap .i64 (f+1)) n)))
(nP g λc4 d3=>
∃C B,ay m c4 (d3+3) 1=some [.list 12 C B]/\
ak (α:=(Fl×Lq)×Int) (λd0 d a0=>
ab (decide (d.2<(l.length:Int)))
(ak (α:=(Fl×Lq)×Int) (λQ a j=>
ab (decide (a.2<((List.length d.1.2:Nat):Int)))
(0<=a.2/\∃(U:List PV),(d.1.2)[toNat a.2]?=some U/\
∃b6,az U 11 1=some [pI b6]/\
0<=d.2/\∃(V:List PV),(l)[toNat d.2]?=some V/\
∃b7,az V 0 1=some [pI b7]/\
ab (b6 != b7)
(0<=a.2/\∃(W:List PV),(d.1.2)[toNat a.2]?=some W/\
∃D E F G H I J L M N O P,az W 0 12=some [pI D,pS E,pI F,pI G,pS H,pI I,pI J,pS L,pI M,pB N,pB O,pI P]/\
aR false 12 112 a.1.1 a.1.2 [[pI D,pS E,pI F,pI G,pS H,pI I,pI J,pS L,pI M,pB N,pB O,pI P]] j λc8 d7=>
Q ((c8,(a.1.2++[[pI D,pS E,pI F,pI G,pS H,pI I,pI J,pS L,pI M,pB N,pB O,pI P]])),(wrap .i64 (a.2+1))) d7)
(Q ((a.1.1,a.1.2),(wrap .i64 (a.2+1))) j))
(ab (((List.length a.1.2:Nat):Int) == ((List.length d.1.2:Nat):Int))
(K (pI 4) j)
(d0 ((a.1.1,a.1.2),(wrap .i64 (d.2+1))) j)))
((.nil,[]),0) a0)
(aa prog 57 [.list 12 d.1.1 d.1.2] a0 λe2 d8=>
∃b9 b8,e2=(.list 12 b9 b8)/\
ak (α:=(Fl×Lq)×Int) (λd1 b a1=>
ab (decide (b.2<(e.length:Int)))
(ak (α:=Int) (λd2 i o=>
ab (decide (i<((List.length b.1.2:Nat):Int)))
(0<=i/\∃(X:List PV),(b.1.2)[toNat i]?=some X/\
∃c0,az X 11 1=some [pI c0]/\
0<=b.2/\∃(Y:List PV),(e)[toNat b.2]?=some Y/\
∃c1,az Y 11 1=some [pI c1]/\
ab (c0 == c1)
(K (pI 3) o)
(d2 (wrap .i64 (i+1)) o))
(0<=b.2/\∃(R:List PV),(e)[toNat b.2]?=some R/\
∃p q r s t u v w x y z A,az R 0 12=some [pI p,pS q,pI r,pI s,pS t,pI u,pI v,pS w,pI x,pB y,pB z,pI A]/\
aR false 12 112 b.1.1 b.1.2 [[pI p,pS q,pI r,pI s,pS t,pI u,pI v,pS w,pI x,pB y,pB z,pI A]] o λc7 d9=>
d1 ((c7,(b.1.2++[[pI p,pS q,pI r,pI s,pS t,pI u,pI v,pS w,pI x,pB y,pB z,pI A]])),(wrap .i64 (b.2+1))) d9))
(0) a1)
(nP g λc5 d4=>
stM c5 (d4+3) [.list 12 b.1.1 b.1.2] a1 λe0=>
aa prog 93 [pA g] e0 λe3 Z=>
∃k,e3=(pI k)/\
ab (k != 0)
(nP g λc6 d5=>
stM c6 (d5+3) [.list 12 C B] Z λd6=>
K (pI k) d6)
(K (pI k) Z)))
((b9,b8),0) d8))
((C,B),0) m))
(0) u0):aa prog 42 [pA g,.list 12 c2 e,.list 1 c3 l] u0 K:=
VC [] [(2,⟨[(7,.one (.raw (.int .i64)))],[]⟩),(9,⟨[(9,.one (.list 12)),(10,.one (.raw (.int .i64)))],[]⟩),(13,⟨[(11,.one (.list 12)),(12,.one (.raw (.int .i64)))],[]⟩),(22,⟨[(9,.one (.list 12)),(13,.one (.raw (.int .i64)))],[]⟩),(25,⟨[(14,.one (.raw (.int .i64)))],[]⟩)] [] [] [] [] [] func42 h
def Qg.c{i x:ByteArray}{z B C:Fl}{y A a:Lq}(h:
cl u0 9 [pS i] λE k=>
0<=(wrap .i64 ((a.length:Int)-1))/\∃(j:List PV),(a)[toNat (wrap .i64 ((a.length:Int)-1))]?=some j/\
∃m,az j 0 1=some [pA m]/\
nP m λD G=>
∃o n,ay k D (G+9) 1=some [.list 2 o n]/\
aa prog 96 [.list 2 o n] k λP I=>
∃p,P=(pA p)/\
cl I 54 [.list 2 .nil []] λd J=>
aa prog 97 [pA p] J λQ L=>
∃q r s,Q=(.fn q r s)/\
bk prog (.fn q r s) (λR w e=>
∃S b U T,R=[.agg [.list 1 S b,.list 4 U T]]/\
∃t f,ay e d 0 1=some [.list 2 t f]/\
∃g,ay e E 0 1=some [pS g]/\
aR true 1 8 .nil [] b e λV M=>
aR false 2 40 t f [[pS g,.list 1 .sh ([]++b)]] M λF N=>
stM d 0 [.list 2 F (f++[[pS g,.list 1 .sh ([]++b)]])] N λO=>
w none O)
(λH l=>
PK H
(∃v u,ay l d 0 1=some [.list 2 v u]/\
K (.list 2 v u) l)
(False)
[])
L):aa prog 45 [pS i,.agg [pS x,.list 7 z y,.list 19 B A,.list 1 C a]] u0 K:=
VC [3,7] [] [] [(22,[123])] [] [] [] func45 h
def wX.c{k l:Fl}{b d:Lq}(h:
ab ((b.length:Int) != (d.length:Int))
(K (pB false) u0)
(ak (α:=Int) (λm a e=>
ab (decide (a<(b.length:Int)))
(0<=a/\∃(f:List PV),(b)[toNat a]?=some f/\
∃i,az f 0 1=some [pI i]/\
0<=a/\∃(g:List PV),(d)[toNat a]?=some g/\
∃j,az g 0 1=some [pI j]/\
ab (i != j)
(K (pB false) e)
(m (wrap .i64 (a+1)) e))
(K (pB true) e))
(0) u0)):aa prog 46 [.list 1 k b,.list 1 l d] u0 K:=
VC [] [(4,⟨[(5,.one (.raw (.int .i64)))],[]⟩)] [] [] [] [] [] func46 h
def JZ.c(h:
aa prog 98 [] u0 λi e=>
∃a,i=(pA a)/\
aa prog 99 [] e λj f=>
∃b,j=(pA b)/\
cl f 198 [pA a,pA b] λd g=>
K (pP d 0) g):aa prog 47 [] u0 K:=
VC [] [] [] [] [] [] [] func47 h
def sG.c{b a:Int}(h:
ab (decide (a<1))
(K (pI 0) u0)
((a:Int)≠0/\
ab (decide (((tmod b a):Int)<0))
(K (pI (wrap .i64 ((tmod b a)+a))) u0)
(K (pI (tmod b a)) u0))):aa prog 51 [pI b,pI a] u0 K:=
VC [] [] [] [] [] [] [] func51 h
def wW.c{a g:ByteArray}{d f j l:Fl}{b e i k:Lq}(h:
ab (aG a g)
(aa prog 102 [.list 7 d b,.list 7 j i] u0 λq m=>
∃n,q=(pB n)/\
ab n
(aa prog 103 [.list 19 f e,.list 19 l k] m λr p=>
∃o,r=(pB o)/\
K (pB o) p)
(K (pB false) m))
(K (pB false) u0)):aa prog 52 [.agg [pS a,.list 7 d b,.list 19 f e],.agg [pS g,.list 7 j i,.list 19 l k]] u0 K:=
VC [2,3] [] [] [] [] [] [] func52 h
def uU.c{k:ByteArray}{f g:Option Addr}{d l e m:Nat}(h:
ak (α:=Int) (λp a i=>
ab (decide (a<((d:Nat):Int)))
(bh f λn r=>
0<=a/\a<((d:Nat):Int)/\
aa prog 104 [pP n (r+toNat a*7)] i λv t=>
 v=(.aB [])/\
p (wrap .i64 (a+1)) t)
(ak (α:=Int) (λq b j=>
ab (decide (b<((e:Nat):Int)))
(bh g λo s=>
0<=b/\b<((e:Nat):Int)/\
stM o (s+toNat b*19) [pS ⟨#[103,111,110,101]⟩,pS ⟨#[]⟩,pI 0,pS ⟨#[]⟩,pI 0,pI 0,pS ⟨#[]⟩,pI 0,pS ⟨#[]⟩,pI 0,pS ⟨#[]⟩,pI 0,pS ⟨#[]⟩,pI 0,pI 0,pS ⟨#[]⟩,pI 0,pS ⟨#[]⟩,pI 0] j λu=>
q (wrap .i64 (b+1)) u)
(K (.aB []) j))
(0) i))
(0) u0):aa prog 53 [.agg [pS k,pV f d l,pV g e m]] u0 K:=
VC [1] [(2,⟨[(2,.one (.raw (.int .i64)))],[]⟩),(6,⟨[(3,.one (.raw (.int .i64)))],[]⟩)] [] [] [] [] [0,1,2,3,4,5,6,7,8,9,10,11,12,13,14,15,16,17,18,19,20,21,22,23,24,25,26,27] func53 h
def wO.c{b:Option Addr}{f:ByteArray}(h:
nP b λm p=>
∃i,ay u0 m (p+6) 1=some [pA i]/\
aa prog 105 [pA i,pS f] u0 λu d=>
∃w y x A z j a k,u=(.aB [.agg [pS w,.list 7 y x,.list 19 A z,.list 1 j a],pB k])/\
ab (!k)
(K (pB false) d)
(0<=(wrap .i64 ((a.length:Int)-1))/\∃(g:List PV),(a)[toNat (wrap .i64 ((a.length:Int)-1))]?=some g/\
∃e,az g 0 1=some [pA e]/\
nP e λn q=>
∃l,ay d n (q+11) 1=some [pI l]/\
nP e λo r=>
stM o (r+11) [pI (wrap .i64 (l-1))] d λs=>
aa prog 69 [pA b,.list 1 j a] s λv t=>
 v=(.aB [])/\
K (pB true) t)):aa prog 54 [pA b,pS f] u0 K:=
VC [5] [] [] [] [] [] [] func54 h
def nA.c{b:Option Addr}{o:ByteArray}(h:
aa prog 90 [pA b,pS o] u0 λV k=>
∃a l,V=(.aB [pI a,pB l])/\
ab l
(nP b λp E=>
∃W g,ay k p (E+2) 1=some [.list 3 W g]/\
(0:Int)<=(0:Int)/\0<=a/\a<=(g.length:Int)/\
nP b λq F=>
∃X d,ay k q (F+2) 1=some [.list 3 X d]/\
0<=(wrap .i64 (a+1))/\(wrap .i64 (a+1))<=(d.length:Int)/\(d.length:Int)<=(d.length:Int)/\
aR true 3 64 .nil [] (drop (toNat (0:Int)) (take (toNat a) g)) k λy O=>
aR false 3 64 y ([]++(drop (toNat (0:Int)) (take (toNat a) g))) (drop (toNat (wrap .i64 (a+1))) (take (toNat (d.length:Int)) d)) O λz P=>
nP b λr G=>
stM r (G+2) [.list 3 z (([]++(drop (toNat (0:Int)) (take (toNat a) g)))++(drop (toNat (wrap .i64 (a+1))) (take (toNat (d.length:Int)) d)))] P λm=>
nP b λs H=>
∃Y i,ay m s (H+4) 1=some [.list 1 Y i]/\
(0:Int)<=(0:Int)/\0<=a/\a<=(i.length:Int)/\
nP b λt I=>
∃Z e,ay m t (I+4) 1=some [.list 1 Z e]/\
0<=(wrap .i64 (a+1))/\(wrap .i64 (a+1))<=(e.length:Int)/\(e.length:Int)<=(e.length:Int)/\
aR true 1 24 .nil [] (drop (toNat (0:Int)) (take (toNat a) i)) m λA Q=>
aR false 1 24 A ([]++(drop (toNat (0:Int)) (take (toNat a) i))) (drop (toNat (wrap .i64 (a+1))) (take (toNat (e.length:Int)) e)) Q λB R=>
nP b λu J=>
stM u (J+4) [.list 1 B (([]++(drop (toNat (0:Int)) (take (toNat a) i)))++(drop (toNat (wrap .i64 (a+1))) (take (toNat (e.length:Int)) e)))] R λn=>
nP b λv L=>
∃a0 j,ay n v (L+5) 1=some [.list 1 a0 j]/\
(0:Int)<=(0:Int)/\0<=a/\a<=(j.length:Int)/\
nP b λw M=>
∃a1 f,ay n w (M+5) 1=some [.list 1 a1 f]/\
0<=(wrap .i64 (a+1))/\(wrap .i64 (a+1))<=(f.length:Int)/\(f.length:Int)<=(f.length:Int)/\
aR true 1 8 .nil [] (drop (toNat (0:Int)) (take (toNat a) j)) n λC S=>
aR false 1 8 C ([]++(drop (toNat (0:Int)) (take (toNat a) j))) (drop (toNat (wrap .i64 (a+1))) (take (toNat (f.length:Int)) f)) S λD T=>
nP b λx N=>
stM x (N+5) [.list 1 D (([]++(drop (toNat (0:Int)) (take (toNat a) j)))++(drop (toNat (wrap .i64 (a+1))) (take (toNat (f.length:Int)) f)))] T λU=>
K (pB l) U)
(K (pB l) k)):aa prog 55 [pA b,pS o] u0 K:=
VC [] [] [] [] [] [] [] func55 h
def sD.c{e:Option Addr}{v:Fl}{b:Lq}(h:
ak (α:=(Fl×Lq)×Int) (λl a d=>
ab (decide (a.2<(b.length:Int)))
(cg (α:=Bool) (λk=>
0<=a.2/\∃(m:List PV),(b)[toNat a.2]?=some m/\
∃r,az m 0 1=some [pI r]/\
ab (decide (r>=0))
(0<=a.2/\∃(n:List PV),(b)[toNat a.2]?=some n/\
∃s,az n 0 1=some [pI s]/\
nP e λw A=>
∃F t,ay d w (A+3) 1=some [.list 12 F t]/\
k (decide (s<(t.length:Int))) d)
(k false d))
(λC f=>
ab C
(nP e λx B=>
∃G u,ay f x (B+3) 1=some [.list 12 G u]/\
0<=a.2/\∃(o:List PV),(b)[toNat a.2]?=some o/\
∃g,az o 0 1=some [pI g]/\
0<=g/\∃(p:List PV),(u)[toNat g]?=some p/\
∃i,az p 11 1=some [pI i]/\
aR false 1 8 a.1.1 a.1.2 [[pI i]] f λy D=>
l ((y,(a.1.2++[[pI i]])),(wrap .i64 (a.2+1))) D)
(0<=a.2/\∃(q:List PV),(b)[toNat a.2]?=some q/\
∃j,az q 0 1=some [pI j]/\
aR false 1 8 a.1.1 a.1.2 [[pI j]] f λz E=>
l ((z,(a.1.2++[[pI j]])),(wrap .i64 (a.2+1))) E)))
(K (.list 1 a.1.1 a.1.2) d))
((.nil,[]),0) u0):aa prog 56 [pA e,.list 1 v b] u0 K:=
VC [] [(3,⟨[(5,.one (.list 1)),(6,.one (.raw (.int .i64)))],[]⟩)] [(6,⟨[(29,.one (.raw .bool))],[]⟩)] [] [] [] [] func56 h
def gE.c{b:Fl}{a:Lq}(h:
aR false 12 112 .nil [] a u0 λd e=>
K (.list 12 d ([]++a)) e):aa prog 57 [.list 12 b a] u0 K:=
VC [] [] [] [] [] [] [] func57 h
def kI.c{b:Fl}{a:Lq}(h:
eB 12 112 88 none 0 0 (.list 12 b a) u0 λd f e g=>
K (pV d f e) g):aa prog 57 [.list 12 b a] u0 K:=
VC [] [] [] [] [] [] [2,4] func57 h
def qg.c{d:Option Addr}(h:
ak (α:=(Fl×Lq)×Int) (λy a f=>
nP d λt A=>
∃F n,ay f t (A+2) 1=some [.list 3 F n]/\
ab (decide (a.2<(n.length:Int)))
(ak (α:=(Fl×Lq)×Int) (λz b e=>
nP d λu B=>
∃G o,ay e u (B+4) 1=some [.list 1 G o]/\
0<=a.2/\∃(j:List PV),(o)[toNat a.2]?=some j/\
∃H p,az j 0 1=some [.list 3 H p]/\
ab (decide (b.2<(p.length:Int)))
(nP d λv C=>
∃I q,ay e v (C+2) 1=some [.list 3 I q]/\
0<=a.2/\∃(k:List PV),(q)[toNat a.2]?=some k/\
∃g,az k 0 1=some [pS g]/\
nP d λw D=>
∃J r,ay e w (D+4) 1=some [.list 1 J r]/\
0<=a.2/\∃(l:List PV),(r)[toNat a.2]?=some l/\
∃L s,az l 0 1=some [.list 3 L s]/\
0<=b.2/\∃(m:List PV),(s)[toNat b.2]?=some m/\
∃M i,az m 0 1=some [.list 1 M i]/\
aR false 2 40 b.1.1 b.1.2 [[pS g,.list 1 .sh i]] e λx E=>
z ((x,(b.1.2++[[pS g,.list 1 .sh i]])),(wrap .i64 (b.2+1))) E)
(y ((b.1.1,b.1.2),(wrap .i64 (a.2+1))) e))
((a.1.1,a.1.2),0) f)
(K (.list 2 a.1.1 a.1.2) f))
((.nil,[]),0) u0):aa prog 58 [pA d] u0 K:=
VC [] [(3,⟨[(3,.one (.list 2)),(4,.one (.raw (.int .i64)))],[]⟩),(6,⟨[(3,.one (.list 2)),(5,.one (.raw (.int .i64)))],[]⟩)] [] [] [] [] [] func58 h
def CO.c{a:Option Addr}(h:
nP a λe f=>
∃b,ay u0 e (f+6) 1=some [pA b]/\
aa prog 106 [pA b] u0 λi g=>
∃d,i=(pI d)/\
K (pI d) g):aa prog 59 [pA a] u0 K:=
VC [] [] [] [] [] [] [] func59 h
def uE.c{d:Fn}{e f g:List PV}(h:
cl u0 27 [.fn d e f] λB i=>
∃v,az g 0 1=some [pA v]/\
nP v λA C=>
∃w,ay i A (C+6) 1=some [pA w]/\
aa prog 61 [pA w] i λG E=>
∃x y z,G=(.fn x y z)/\
bk prog (.fn x y z) (λJ b a=>
∃L l M m N n P O,J=[pS L,.agg [pS l,.list 7 M m,.list 19 N n,.list 1 P O]]/\
∃o p q,ay a B 0 1=some [.fn o p q]/\
dh prog 62 [.agg [pS l,.list 7 .sh m,.list 19 .sh n]] a λH F=>
∃r Q s R t,H=(.agg [pS r,.list 7 Q s,.list 19 R t])/\
bP prog (.fn o p q) [.agg [pS r,.list 7 .sh s,.list 19 .sh t]] (Mem.or a F) λI k=>
∃u,I=(pB u)/\
ab (!u)
(b (some .ret) k)
(b none k))
(λD j=>
PK D
(K (.aB []) j)
(K (.aB []) j)
[])
E):aa prog 60 [.fn d e f,.bt g 0] u0 K:=
VC [4] [] [] [(10,[118,108])] [] [] [] func60 h
def ib.c{a:Option Addr}(h:
K (.fn (.func 107) [] [.bt [pA a] 0]) u0):aa prog 61 [pA a] u0 K:=
VC [] [] [] [] [1] [] [] func61 h
def JX.c{b:ByteArray}{e i:Fl}{d a:Lq}(h:
dh prog 109 [.list 7 e d] u0 λm k=>
∃g f,m=(.list 7 g f)/\
aR true 19 224 .nil [] a (Mem.or u0 k) λj l=>
K (.agg [pS b,.list 7 g f,.list 19 j ([]++a)]) l):aa prog 62 [.agg [pS b,.list 7 e d,.list 19 i a]] u0 K:=
VC [1,2] [] [] [] [] [] [] func62 h
def DF.c{a:ByteArray}{f d:Fl}{e b:Lq}(h:
(((aa prog 109 [.list 7 f e] u0 λW O=>
∃p u t,W=(pV p u t)/\
(eB 19 224 43 none 0 0 (.list 19 d b) O λv N M P=>
(K (.agg [pS a,pV p u t,pV v N M]) P)/\
True)/\
True)/\
True)/\
(aa prog 109 [.list 7 f e] u0 λX Q=>
∃q s r,X=(pV q s r)/\
(eB 19 224 43 none 0 0 (.list 19 d b) Q λw y x R=>
(K (.agg [pS a,pV q s r,pV w y x]) R)/\
True)/\
True)/\
True)/\
((aa prog 109 [.list 7 f e] u0 λY n=>
∃g j i,Y=(pV g j i)/\
((eB 19 224 43 none 0 0 (.list 19 d b) n λz B A S=>
(K (.agg [pS a,pV g j i,pV z B A]) S)/\
True)/\
True)/\
(eB 19 224 43 none 0 0 (.list 19 d b) n λC E D T=>
(K (.agg [pS a,pV g j i,pV C E D]) T)/\
True)/\
True)/\
True)/\
(aa prog 109 [.list 7 f e] u0 λZ o=>
∃k m l,Z=(pV k m l)/\
((eB 19 224 43 none 0 0 (.list 19 d b) o λF H G U=>
(K (.agg [pS a,pV k m l,pV F H G]) U)/\
True)/\
True)/\
(eB 19 224 43 none 0 0 (.list 19 d b) o λI L J V=>
(K (.agg [pS a,pV k m l,pV I L J]) V)/\
True)/\
True)/\
True):aa prog 62 [.agg [pS a,.list 7 f e,.list 19 d b]] u0 K:=
VC [1,2,1000001] [] [] [] [] [] [2,7,10,11] func62 h
def ow.c{l:Fl}{b:Lq}(h:
ak (α:=Int) (λm a d=>
ab (decide (a<(b.length:Int)))
(0<=a/\∃(e:List PV),(b)[toNat a]?=some e/\
∃n i,az e 5 1=some [.list 3 n i]/\
ab (decide ((i.length:Int)>20))
(K (pB true) d)
(0<=a/\∃(f:List PV),(b)[toNat a]?=some f/\
∃j,az f 1 1=some [pS j]/\
ab (decide ((((ByteArray.size j:Nat):Int):Int)>100))
(K (pB true) d)
(0<=a/\∃(g:List PV),(b)[toNat a]?=some g/\
∃k,az g 3 1=some [pS k]/\
ab (decide ((((ByteArray.size k:Nat):Int):Int)>100))
(K (pB true) d)
(m (wrap .i64 (a+1)) d))))
(K (pB false) d))
(0) u0):aa prog 63 [.list 6 l b] u0 K:=
VC [] [(2,⟨[(3,.one (.raw (.int .i64)))],[]⟩)] [] [] [] [] [] func63 h
def DD.c{a:ByteArray}{g i:Fl}{b d:Lq}(h:
aa prog 110 [.agg [pS a,.list 7 .sh b,.list 19 .sh d]] u0 λk j=>
∃e f m l,k=(.aB [pI e,pI f,.list 1 m l])/\
K (.aB [pI e,pI f]) j):aa prog 64 [.agg [pS a,.list 7 g b,.list 19 i d]] u0 K:=
VC [1] [] [] [] [] [] [] func64 h
def wN.c{o g:Option Addr}{i7:Fl}{E:Lq}(h:
cl u0 124 [.list 2 .nil []] λd l8=>
cl l8 51 [pV none 0 0] λe l9=>
cl l9 4 [pB false] λf m=>
cg (α:=Option Addr) (λD=>
nP g λi8 k5=>
∃B A,ay m i8 (k5+8) 1=some [.list 1 B A]/\
nP g λj2 k6=>
∃p2 a,ay m j2 (k6+8) 1=some [.list 1 p2 a]/\
(0<=(a.length:Int)/\(a.length:Int)<=(a.length:Int)/\(a.length:Int)<(4611686018427387904:Int)/\toNat (a.length:Int)*8<=140737488355328/\
∀(ur:Nat),m ur=none->
(cl (Mem.set m ur (some (.cells 3 (flatten (replicate (toNat (a.length:Int)) [pI 0]))))) 226 [pA o,.list 1 B A,pV (some ⟨ur,0,none⟩) (toNat (a.length:Int)) (toNat (a.length:Int))] λi9 o0=>
cl o0 224 [pA none] λO o2=>
stM O 0 [pP i9 0] o2 λo3=>
D (some ⟨O,0,none⟩) o3)/\
(cl (Mem.set m ur (some (.cells 3 (flatten (replicate (toNat (a.length:Int)) [pI 0]))))) 224 [pA none] λP o4=>
cl o4 226 [pA o,.list 1 B A,pV (some ⟨ur,0,none⟩) (toNat (a.length:Int)) (toNat (a.length:Int))] λj0 o5=>
stM P 0 [pP j0 0] o5 λo6=>
D (some ⟨P,0,none⟩) o6))/\
(cl m 224 [pA none] λQ c5=>
0<=(a.length:Int)/\(a.length:Int)<=(a.length:Int)/\(a.length:Int)<(4611686018427387904:Int)/\toNat (a.length:Int)*8<=140737488355328/\
∀(Un:Nat),c5 Un=none->
cl (Mem.set c5 Un (some (.cells 3 (flatten (replicate (toNat (a.length:Int)) [pI 0]))))) 226 [pA o,.list 1 B A,pV (some ⟨Un,0,none⟩) (toNat (a.length:Int)) (toNat (a.length:Int))] λj1 m0=>
stM Q 0 [pP j1 0] m0 λm1=>
D (some ⟨Q,0,none⟩) m1))
(λt n3=>
cl n3 124 [.list 2 .nil []] λp m2=>
ak (α:=Int) (λF l j=>
ab (decide (l<(E.length:Int)))
(0<=l/\∃(c3:List PV),(E)[toNat l]?=some c3/\
∃e0 d9 e2 e1,az c3 0 2=some [.list 1 e0 d9,.list 4 e2 e1]/\
cl j 123 [.list 1 .nil [],.list 4 .nil []] λi m3=>
stM i 0 [.list 1 e0 d9,.list 4 e2 e1] m3 λb=>
nP g λj5 k9=>
∃e3,ay b j5 k9 1=some [pI e3]/\
ab (e3 == 1)
(nP g λj6 l0=>
∃f7 f8 f9 p9 g0 q0 g1 g2 q1 g3,ay b j6 l0 7=some [pI f7,pB f8,pS f9,.list 6 p9 g0,.list 6 q0 g1,pB g2,.list 7 q1 g3]/\
nP g λj7 l1=>
∃g4 g5 g6 q2 g7 q3 g8 g9 q4 h0,ay b j7 l1 7=some [pI g4,pB g5,pS g6,.list 6 q2 g7,.list 6 q3 g8,pB g9,.list 7 q4 h0]/\
∃h2 h1,ay b i 1 1=some [.list 4 h2 h1]/\
nP g λj8 l2=>
∃q5 h3,ay b j8 (l2+8) 1=some [.list 1 q5 h3]/\
(0:Int)<=0/\∃(c4:List PV),(h3)[toNat 0]?=some c4/\
∃h4,az c4 0 1=some [pI h4]/\
∃h9 h8,ay b i 1 1=some [.list 4 h9 h8]/\
dh prog 116 [pA o,.agg [pI g4,pB g5,pS g6,.list 6 .sh g7,.list 6 .sh g8,pB g9,.list 7 .sh h0],.list 4 h2 h1,pI h4] b λo7 m4=>
∃h5 h6 h7,o7=(.fn h5 h6 h7)/\
aa prog 115 [.agg [pI f7,pB f8,pS f9,.list 6 .sh g0,.list 6 .sh g1,pB g2,.list 7 .sh g3],.fn h5 h6 h7,.list 4 h9 h8] (Mem.or b m4) λo8 m5=>
∃i0 i1 i2,o8=(.fn i0 i1 i2)/\
bk prog (.fn i0 i1 i2) (λp1 N c6=>
∃q6 q7 q8 q9 r0 r1 r2 r3 r4 r5 r6 C r7 L,p1=[.agg [pI q6,pS q7,pI q8,pI q9,pS r0,pI r1,pI r2,pS r3,pI r4,pB r5,pB r6,pI C],.list 4 r7 L]/\
aM (pA t) λj9 l3=>
∃i3,ay c6 j9 l3 1=some [pA i3]/\
aa prog 117 [pA i3,pI 0,pI 1] c6 λo9 n=>
∃i4,o9=(pB i4)/\
ab (!i4)
(stM d 0 [.list 2 .nil []] n λm6=>
stM e 0 [pV none 0 0] m6 λm7=>
stM f 0 [pB false] m7 λm8=>
N (some .ret) m8)
(∃i5 M,ay n p 0 1=some [.list 2 i5 M]/\
∃r8 s,ay n i 0 1=some [.list 1 r8 s]/\
∃r9 k,ay n i 0 1=some [.list 1 r9 k]/\
∃s0 i6,ay n i 0 1=some [.list 1 s0 i6]/\
(0:Int)<=(0:Int)/\0<=(k.length:Int)/\(k.length:Int)<=(s.length:Int)/\(i6.length:Int)=(k.length:Int)/\
aR true 1 8 .nr (drop (toNat (0:Int)) (take (toNat (k.length:Int)) s)) [[pI C]] n λs1 m9=>
aR false 2 48 i5 M [[.list 1 .sh ((drop (toNat (0:Int)) (take (toNat (k.length:Int)) s))++[[pI C]]),.list 4 .sh L]] m9 λk3 n0=>
stM p 0 [.list 2 k3 (M++[[.list 1 .sh ((drop (toNat (0:Int)) (take (toNat (k.length:Int)) s))++[[pI C]]),.list 4 .sh L]])] n0 λn1=>
N none n1))
(λl7 q=>
PK l7
(F (wrap .i64 (l+1)) q)
(∃a2 T,ay q d 0 1=some [.list 2 a2 T]/\
∃a3 b7 b6,ay q e 0 1=some [pV a3 b7 b6]/\
∃b8,ay q f 0 1=some [pB b8]/\
K (.aB [.list 2 a2 T,pV a3 b7 b6,pB b8]) q)
[])
m5)
(aM (pA t) λk0 l4=>
∃e4,ay b k0 l4 1=some [pA e4]/\
nP g λk1 l5=>
∃e5 e6 e7 p3 e8 p4 e9 f0 p5 f1,ay b k1 l5 7=some [pI e5,pB e6,pS e7,.list 6 p3 e8,.list 6 p4 e9,pB f0,.list 7 p5 f1]/\
∃f3 f2,ay b i 1 1=some [.list 4 f3 f2]/\
aa prog 118 [pA e4,.list 7 .nr [[pI e5,pB e6,pS e7,.list 6 .sh e8,.list 6 .sh e9,pB f0,.list 7 .sh f1]],.list 4 f3 f2,pI 0] b λp0 r=>
∃p6 f4 f5,p0=(.aB [.list 1 p6 f4,pB f5])/\
ab (!f5)
(stM d 0 [.list 2 .nil []] r λn2=>
stM e 0 [pV none 0 0] n2 λn4=>
stM f 0 [pB false] n4 λu=>
∃V U,ay u d 0 1=some [.list 2 V U]/\
∃a4 a6 a5,ay u e 0 1=some [pV a4 a6 a5]/\
∃b9,ay u f 0 1=some [pB b9]/\
K (.aB [.list 2 V U,pV a4 a6 a5,pB b9]) u)
(ab (decide ((f4.length:Int)>0))
(∃f6 H,ay r p 0 1=some [.list 2 f6 H]/\
∃p7 I p8 J,ay r i 0 2=some [.list 1 p7 I,.list 4 p8 J]/\
aR false 2 48 f6 H [[.list 1 .sh I,.list 4 .sh J]] r λk4 n5=>
stM p 0 [.list 2 k4 (H++[[.list 1 .sh I,.list 4 .sh J]])] n5 λn6=>
F (wrap .i64 (l+1)) n6)
(F (wrap .i64 (l+1)) r))))
(∃z y,ay j p 0 1=some [.list 2 z y]/\
(aM (pA t) λk2 l6=>
∃c8,ay j k2 l6 1=some [pA c8]/\
nP c8 λR S=>
(∃d0 d8 d7,ay j R (S+2) 1=some [pV d0 d8 d7]/\
(stM d 0 [.list 2 z y] j λn7=>
(stM e 0 [pV d0 d8 d7] n7 λn8=>
(stM f 0 [pB true] n8 λv=>
∃X W,ay v d 0 1=some [.list 2 X W]/\
∃a7 a9 a8,ay v e 0 1=some [pV a7 a9 a8]/\
∃c0,ay v f 0 1=some [pB c0]/\
K (.aB [.list 2 X W,pV a7 a9 a8,pB c0]) v)/\
True)/\
True)/\
True)/\
(stM d 0 [.list 2 z y] j λc7=>
∃d1 d3 d2,ay c7 R (S+2) 1=some [pV d1 d3 d2]/\
(stM e 0 [pV d1 d3 d2] c7 λn9=>
(stM f 0 [pB true] n9 λw=>
∃Z Y,ay w d 0 1=some [.list 2 Z Y]/\
∃b0 b2 b1,ay w e 0 1=some [pV b0 b2 b1]/\
∃c1,ay w f 0 1=some [pB c1]/\
K (.aB [.list 2 Z Y,pV b0 b2 b1,pB c1]) w)/\
True)/\
True)/\
True)/\
(stM d 0 [.list 2 z y] j λG=>
aM (pA t) λj3 k7=>
∃c9,ay G j3 k7 1=some [pA c9]/\
nP c9 λj4 k8=>
∃d4 d6 d5,ay G j4 (k8+2) 1=some [pV d4 d6 d5]/\
(stM e 0 [pV d4 d6 d5] G λo1=>
(stM f 0 [pB true] o1 λx=>
∃a1 a0,ay x d 0 1=some [.list 2 a1 a0]/\
∃b3 b5 b4,ay x e 0 1=some [pV b3 b5 b4]/\
∃c2,ay x f 0 1=some [pB c2]/\
K (.aB [.list 2 a1 a0,pV b3 b5 b4,pB c2]) x)/\
True)/\
True)/\
True))
(0) m2)):aa prog 67 [pA o,pA g,.list 2 i7 E] u0 K:=
VC [13,1000020] [(4,⟨[(32,.one (.raw (.int .i64)))],[]⟩)] [(2,⟨[(9,.one (.raw .ptr))],[]⟩)] [(85,[88,121])] [] [] [7,27,112,113,2029002] func67 h
def yM.c{e f:Option Addr}(h:
nP f λk n=>
∃s d,ay u0 k (n+8) 1=some [.list 1 s d]/\
ak (α:=Int) (λm a b=>
ab (decide (a<(d.length:Int)))
(0<=a/\∃(g:List PV),(d)[toNat a]?=some g/\
∃i,az g 0 1=some [pI i]/\
nP e λl o=>
∃j,ay b l (o+3) 1=some [pA j]/\
aa prog 119 [pA j,pI i] b λq p=>
∃r,q=(pB r)/\
m (wrap .i64 (a+1)) p)
(K (.aB []) b))
(0) u0):aa prog 68 [pA e,pA f] u0 K:=
VC [] [(1,⟨[(11,.one (.raw (.int .i64)))],[]⟩)] [] [] [] [] [] func68 h
def yL.c{m:Option Addr}{B:Fl}{j:Lq}(h:
ak (α:=Int) (λM d b=>
ab (decide (d>=0))
(0<=d/\∃(s:List PV),(j)[toNat d]?=some s/\
∃i,az s 0 1=some [pA i]/\
nP i λC O=>
∃a4 v a5,ay b C (O+7) 1=some [pV a4 v a5]/\
ab (decide ((((v:Nat):Int):Int)>0))
(K (.aB []) b)
(nP i λD P=>
∃w,ay b D (P+11) 1=some [pI w]/\
ab (decide (w>0))
(K (.aB []) b)
(nP m λE Q=>
∃x,ay b E (Q+2) 1=some [pA x]/\
cg (α:=Option Addr) (λq=>
ab (decide (d>0))
(0<=(wrap .i64 (d-1))/\∃(t:List PV),(j)[toNat (wrap .i64 (d-1))]?=some t/\
∃y,az t 0 1=some [pA y]/\
q y b)
(q x b))
(λk u=>
cg (α:=Unit) (λr=>
nP k λF R=>
∃z n a6,ay u F (R+7) 1=some [pV z n a6]/\
ak (α:=Int) (λN a e=>
ab (decide (a<((n:Nat):Int)))
(bh z λG S=>
0<=a/\a<((n:Nat):Int)/\
∃A,ay e G (S+toNat a*1) 1=some [pA A]/\
KS (pA A) (pA i) e λL=>
ab L
(nP k λH T=>
∃o a7 f,ay e H (T+7) 1=some [pV o a7 f]/\
gq o/\(0:Int)<=(0:Int)/\0<=a/\a<=((f:Nat):Int)/\((f:Nat):Int)<=((f:Nat):Int)/\
nP k λI U=>
∃p l g,ay e I (U+7) 1=some [pV p l g]/\
gq p/\0<=(wrap .i64 (a+1))/\(wrap .i64 (a+1))<=((l:Nat):Int)/\((l:Nat):Int)<=((g:Nat):Int)/\((g:Nat):Int)<=((g:Nat):Int)/\
eB 1 8 110 (zI o (toNat (0:Int)) (toNat ((f:Nat):Int)) 1) (toNat a-toNat (0:Int)) (toNat ((f:Nat):Int)-toNat (0:Int)) (pV (zI p (toNat (wrap .i64 (a+1))) (toNat ((g:Nat):Int)) 1) (toNat ((l:Nat):Int)-toNat (wrap .i64 (a+1))) (toNat ((g:Nat):Int)-toNat (wrap .i64 (a+1)))) e λW Y X a0=>
nP k λJ V=>
stM J (V+7) [pV W Y X] a0 λa1=>
r () a1)
(N (wrap .i64 (a+1)) e))
(r () e))
(0) u)
(λa8 Z=>
aa prog 68 [pA m,pA i] Z λa3 a2=>
 a3=(.aB [])/\
M (wrap .i64 (d-1)) a2)))))
(K (.aB []) b))
(wrap .i64 ((j.length:Int)-1)) u0):aa prog 69 [pA m,.list 1 B j] u0 K:=
VC [] [(1,⟨[(4,.one (.raw (.int .i64)))],[]⟩),(9,⟨[(49,.one (.raw (.int .i64)))],[]⟩)] [(8,⟨[(6,.one (.raw .ptr))],[]⟩),(14,⟨[],[]⟩)] [] [] [] [22,23,46,47,60,61,63,66,67,70,71,73] func69 h
def CN.c{e:Option Addr}(h:
cl u0 3 [pI 0] λa x=>
stM a 0 [pI 0] x λg=>
nP e λs u=>
∃q,ay g s (u+6) 1=some [pA q]/\
aa prog 61 [pA q] g λA y=>
∃j k l,A=(.fn j k l)/\
bk prog (.fn j k l) (λB r d=>
∃C D F E H G I b,B=[pS C,.agg [pS D,.list 7 F E,.list 19 H G,.list 1 I b]]/\
∃m,ay d a 0 1=some [pI m]/\
0<=(wrap .i64 ((b.length:Int)-1))/\∃(f:List PV),(b)[toNat (wrap .i64 ((b.length:Int)-1))]?=some f/\
∃n,az f 0 1=some [pA n]/\
nP n λt v=>
∃J o,ay d t (v+9) 1=some [.list 2 J o]/\
stM a 0 [pI (wrap .i64 (m+(o.length:Int)))] d λz=>
r none z)
(λw i=>
PK w
(∃p,ay i a 0 1=some [pI p]/\
K (pI p) i)
(False)
[])
y):aa prog 70 [pA e] u0 K:=
VC [5] [] [] [(11,[118,108])] [] [] [] func70 h
def JY.c{a e b g i k s:Int}{d f j:ByteArray}{q r:Bool}(h:
ab (a == 1)
(ab (b != 1)
(aa prog 122 [.agg [pI a,pS d,pI e]] u0 λu l=>
∃n,u=(pB n)/\
ab n
(aa prog 122 [.agg [pI b,pS f,pI g]] l λv m=>
∃o,v=(pB o)/\
ab o
(aa prog 122 [.agg [pI i,pS j,pI k]] m λw t=>
∃p,w=(pB p)/\
K (pB p) t)
(K (pB false) m))
(K (pB false) l))
(K (pB false) u0))
(K (pB false) u0)):aa prog 72 [.agg [pI a,pS d,pI e,pI b,pS f,pI g,pI i,pS j,pI k,pB q,pB r,pI s]] u0 K:=
VC [1] [] [] [] [] [] [] func72 h
def CM.c{a:Option Addr}{b:Int}(h:
nP a λs t=>
∃d,ay u0 s (t+4) 1=some [pA d]/\
aa prog 123 [pA d,.agg [pI 0,pS ⟨#[]⟩,pI 0,pI 0,pS ⟨#[]⟩,pI 0,pI 0,pS ⟨#[]⟩,pI 0,pB false,pB false,pI b]] u0 λv u=>
∃e f g i j k l m n o p q r,v=(.aB [.agg [pI e,pS f,pI g,pI i,pS j,pI k,pI l,pS m,pI n,pB o,pB p,pI q],pB r])/\
K (.aB [.agg [pI e,pS f,pI g,pI i,pS j,pI k,pI l,pS m,pI n,pB o,pB p,pI q],pB r]) u):aa prog 73 [pA a,pI b] u0 K:=
VC [4,6] [] [] [] [] [] [] func73 h
def lC.c{a:Option Addr}(h:
K (.fn (.func 126) [] [.bt [pA a] 0]) u0):aa prog 77 [pA a] u0 K:=
VC [] [] [] [] [1] [] [] func77 h
def zW.c{a:Option Addr}{b e i k l n f:Int}{d j m:ByteArray}{o p:Bool}(h:
nP a λD H=>
∃v,ay u0 D (H+4) 1=some [pA v]/\
aa prog 128 [pA v,.agg [pI b,pS d,pI e,pI i,pS j,pI k,pI l,pS m,pI n,pB o,pB p,pI f]] u0 λP s=>
∃V,P=(pB V)/\
nP a λE I=>
∃w,ay s E (I+5) 1=some [pA w]/\
aa prog 129 [pA w,.agg [pI b,pS d,pI e]] s λQ t=>
∃r x,Q=(.aB [pA r,pB x])/\
cg (α:=Unit) (λg=>
ab x
(aa prog 128 [pA r,.agg [pI b,pS d,pI e,pI i,pS j,pI k,pI l,pS m,pI n,pB o,pB p,pI f]] t λR M=>
∃W,R=(pB W)/\
aa prog 130 [pA r] M λS q=>
∃y,S=(pI y)/\
ab (y == 0)
(nP a λF J=>
∃z,ay q F (J+5) 1=some [pA z]/\
aa prog 131 [pA z,.agg [pI b,pS d,pI e]] q λT N=>
∃X Y,T=(.aB [pA X,pB Y])/\
g () N)
(g () q))
(g () t))
(λa0 u=>
nP a λG L=>
∃A,ay u G (L+3) 1=some [pA A]/\
aa prog 132 [pA A,pI f] u λU O=>
∃C B Z,U=(.aB [.list 1 C B,pI Z])/\
K (.list 1 C B) O)):aa prog 78 [pA a,.agg [pI b,pS d,pI e,pI i,pS j,pI k,pI l,pS m,pI n,pB o,pB p,pI f]] u0 K:=
VC [3] [] [(7,⟨[],[]⟩)] [] [] [] [] func78 h
def CL.c{e:Option Addr}{a d f i j l o:Int}{b g k:ByteArray}{m n:Bool}(h:
nP e λD H=>
∃v,ay u0 D (H+4) 1=some [pA v]/\
aa prog 74 [pA v,.agg [pI a,pS b,pI d,pI f,pS g,pI i,pI j,pS k,pI l,pB m,pB n,pI o]] u0 λQ r=>
∃W,Q=(pB W)/\
nP e λE I=>
∃w,ay r E (I+5) 1=some [pA w]/\
aa prog 129 [pA w,.agg [pI a,pS b,pI d]] r λR s=>
∃x y,R=(.aB [pA x,pB y])/\
cg (α:=Option Addr) (λq=>
ab (!y)
(aa prog 48 [.list 12 .nil []] s λS t=>
∃p,S=(pA p)/\
nP e λF J=>
∃z,ay t F (J+5) 1=some [pA z]/\
aa prog 135 [pA z,.agg [pI a,pS b,pI d],pA p] t λT O=>
∃X,T=(pB X)/\
q p O)
(q x s))
(λM N=>
aa prog 74 [pA M,.agg [pI a,pS b,pI d,pI f,pS g,pI i,pI j,pS k,pI l,pB m,pB n,pI o]] N λU u=>
∃Y,U=(pB Y)/\
nP e λG L=>
∃A,ay u G (L+3) 1=some [pA A]/\
aa prog 136 [pA A,.agg [pI a,pS b,pI d,pI f,pS g,pI i,pI j,pS k,pI l,pB m,pB n,pI o]] u λV P=>
∃C B Z,V=(.aB [.list 1 C B,pI Z])/\
K (.list 1 C B) P)):aa prog 80 [pA e,.agg [pI a,pS b,pI d,pI f,pS g,pI i,pI j,pS k,pI l,pB m,pB n,pI o]] u0 K:=
VC [3] [] [(6,⟨[(5,.one (.raw .ptr))],[]⟩)] [] [] [] [] func80 h
def zU.c{e k f:Option Addr}{m:Fl}{l:Lq}{n:Bool}(h:
nP k λJ U=>
∃v g a9,ay u0 J (U+7) 1=some [pV v g a9]/\
ak (α:=Int) (λT b d=>
ab (decide (b<((g:Nat):Int)))
(bh v λL V=>
0<=b/\b<((g:Nat):Int)/\
∃a,ay d L (V+toNat b*1) 1=some [pA a]/\
nP a λM W=>
∃x w,ay d M (W+9) 1=some [.list 2 x w]/\
nP a λN X=>
stM N (X+12) [.list 2 x w] d λp=>
nP a λO Y=>
∃z y,ay p O (Y+10) 1=some [.list 1 z y]/\
nP a λP Z=>
stM P (Z+13) [.list 1 z y] p λq=>
cg (α:=Bool) (λi=>
ab n
(i true q)
(aa prog 137 [pA a,pA f] q λa6 a3=>
∃A,a6=(pB A)/\
i A a3))
(λo r=>
cg (α:=Unit) (λj=>
ab o
(aa prog 67 [pA e,pA a,.list 2 m l] r λa7 t=>
∃C B E D F,a7=(.aB [.list 2 C B,.list 1 E D,pB F])/\
ab (!F)
(K (pB false) t)
(nP a λQ a0=>
stM Q (a0+12) [.list 2 C B] t λa4=>
nP a λR a1=>
stM R (a1+13) [.list 1 E D] a4 λa5=>
j () a5))
(j () r))
(λb0 s=>
nP a λS a2=>
∃H G,ay s S (a2+12) 1=some [.list 2 H G]/\
aa prog 81 [pA e,pA a,.list 2 H G,pB o,pA f] s λa8 u=>
∃I,a8=(pB I)/\
ab (!I)
(K (pB false) u)
(T (wrap .i64 (b+1)) u))))
(K (pB true) d))
(0) u0):aa prog 81 [pA e,pA k,.list 2 m l,pB n,pA f] u0 K:=
VC [] [(2,⟨[(22,.one (.raw (.int .i64)))],[]⟩)] [(7,⟨[(13,.one (.raw .bool))],[]⟩),(13,⟨[],[]⟩)] [] [] [] [19,20] func81 h
def DE.c{f:Option Addr}(h:
nP f λn w=>
∃m e J,ay u0 n (w+7) 1=some [pV m e J]/\
ak (α:=Int) (λv b d=>
ab (decide (b<((e:Nat):Int)))
(bh m λo x=>
0<=b/\b<((e:Nat):Int)/\
∃a,ay d o (x+toNat b*1) 1=some [pA a]/\
nP a λp y=>
∃j i,ay d p (y+12) 1=some [.list 2 j i]/\
nP a λq z=>
stM q (z+9) [.list 2 j i] d λg=>
nP a λr A=>
∃l k,ay g r (A+13) 1=some [.list 1 l k]/\
nP a λs B=>
stM s (B+10) [.list 1 l k] g λE=>
nP a λt C=>
stM t (C+12) [.list 2 .nil []] E λF=>
nP a λu D=>
stM u (D+13) [.list 1 .nil []] F λG=>
aa prog 82 [pA a] G λI H=>
 I=(.aB [])/\
v (wrap .i64 (b+1)) H)
(K (.aB []) d))
(0) u0):aa prog 82 [pA f] u0 K:=
VC [] [(1,⟨[(9,.one (.raw (.int .i64)))],[]⟩)] [] [] [] [] [6,7] func82 h
def yO.c{f:Fn}{g i j:List PV}(h:
cl u0 105 [.fn f g i] λF l=>
∃D,az j 0 1=some [pA D]/\
nP D λE H=>
∃o,ay l E (H+6) 1=some [pA o]/\
aa prog 61 [pA o] l λN J=>
∃p q r,N=(.fn p q r)/\
bk prog (.fn p q r) (λQ e L=>
∃s t R u S v T w,Q=[pS s,.agg [pS t,.list 7 R u,.list 19 S v,.list 1 T w]]/\
aa prog 45 [pS s,.agg [pS t,.list 7 .sh u,.list 19 .sh v,.list 1 .sh w]] L λO M=>
∃U d,O=(.list 2 U d)/\
ak (α:=Int) (λG a b=>
ab (decide (a<(d.length:Int)))
(0<=a/\∃(k:List PV),(d)[toNat a]?=some k/\
∃x V y,az k 0 2=some [pS x,.list 1 V y]/\
∃z A B,ay b F 0 1=some [.fn z A B]/\
bP prog (.fn z A B) [.agg [pS x,.list 1 .sh y]] b λP n=>
∃C,P=(pB C)/\
ab (!C)
(e (some .ret) n)
(G (wrap .i64 (a+1)) n))
(e none b))
(0) M)
(λI m=>
PK I
(K (.aB []) m)
(K (.aB []) m)
[])
J):aa prog 83 [.fn f g i,.bt j 0] u0 K:=
VC [4,6] [(5,⟨[(18,.one (.raw (.int .i64)))],[]⟩)] [] [(12,[118,108])] [] [] [] func83 h
def uN.c{a:ByteArray}(h:
ab (decide ((((ByteArray.size a:Nat):Int):Int)<1))
(K (pB false) u0)
(ab (decide ((((ByteArray.size a:Nat):Int):Int)>32))
(K (pB false) u0)
((0:Int)<=0/\∃w:UInt8,a[toNat 0]?=some w/\
ab (decide ((((UInt8.toNat w:Nat):Int):Int)<97))
(K (pB false) u0)
((0:Int)<=0/\∃r:UInt8,a[toNat 0]?=some r/\
ab (decide ((((UInt8.toNat r:Nat):Int):Int)>122))
(K (pB false) u0)
(ak (α:=Int) (λg b d=>
ab (decide (b<((ByteArray.size a:Nat):Int)))
(0<=b/\∃j:UInt8,a[toNat b]?=some j/\
aa prog 138 [.raw (.int .u8 ((UInt8.toNat j:Nat):Int))] d λi e=>
∃f,i=(pB f)/\
ab (!f)
(K (pB false) e)
(g (wrap .i64 (b+1)) e))
(K (pB true) d))
(0) u0))))):aa prog 84 [pS a] u0 K:=
VC [] [(4,⟨[(3,.one (.raw (.int .i64)))],[]⟩)] [] [] [] [] [] func84 h
def kW.c{B:Fl}{b:Lq}{g d:Int}(h:
ak (α:=Int×Int) (λC a l=>
ab (decide (a.2<(b.length:Int)))
(0<=a.2/\∃(i:List PV),(b)[toNat a.2]?=some i/\
∃o p q H r I s t J u,az i 0 7=some [pI o,pB p,pS q,.list 6 H r,.list 6 I s,pB t,.list 7 J u]/\
aa prog 139 [.agg [pI o,pB p,pS q,.list 6 .sh r,.list 6 .sh s,pB t,.list 7 .sh u],pI d] l λE m=>
∃e,E=(pI e)/\
ab (e != 0)
(K (.aB [pI a.1,pI e]) m)
(0<=a.2/\∃(j:List PV),(b)[toNat a.2]?=some j/\
∃w v,az j 6 1=some [.list 7 w v]/\
aa prog 85 [.list 7 w v,pI (wrap .i64 (a.1+1)),pI (wrap .i64 (d+1))] m λF n=>
∃x f,F=(.aB [pI x,pI f])/\
ab (f != 0)
(K (.aB [pI x,pI f]) n)
(0<=a.2/\∃(k:List PV),(b)[toNat a.2]?=some k/\
∃z y,az k 6 1=some [.list 7 z y]/\
aa prog 37 [.list 7 z y] n λG D=>
∃A,G=(pI A)/\
C ((wrap .i64 (a.1+(wrap .i64 (1+A)))),(wrap .i64 (a.2+1))) D)))
(K (.aB [pI (-1),pI 0]) l))
(g,0) u0):aa prog 85 [.list 7 B b,pI g,pI d] u0 K:=
VC [] [(2,⟨[(1,.one (.raw (.int .i64))),(8,.one (.raw (.int .i64)))],[]⟩)] [] [] [] [] [] func85 h
def wU.c{q r t v w i j l n:ByteArray}{s u b g x d k e m o:Int}(h:
aa prog 84 [pS q] u0 λH y=>
∃D,H=(pB D)/\
ab (!D)
(K (pB false) y)
(aa prog 140 [.agg [pS r,pI s,pS t,pI u]] y λI z=>
∃B,I=(pB B)/\
ab (!B)
(K (pB false) z)
(aa prog 140 [.agg [pS v,pI g,pS w,pI x]] z λJ a=>
∃C,J=(pB C)/\
ab (!C)
(K (pB false) a)
(ab (decide (b<0))
(K (pB false) a)
(ab (decide (b>3))
(K (pB false) a)
(ab (decide (e<1))
(K (pB false) a)
(ab (decide (e>10))
(K (pB false) a)
(cg (α:=Unit) (λp=>
ab (b == 0)
(ab (!(aG i ⟨#[]⟩&&((d == 0)&&(aG j ⟨#[]⟩&&((k == 0)&&true)))))
(K (pB false) a)
(p () a))
(aa prog 140 [.agg [pS i,pI d,pS j,pI k]] a λL f=>
∃E,L=(pB E)/\
ab (!E)
(K (pB false) f)
(ab (g == 3)
(K (pB false) f)
(ab (d == 3)
(K (pB false) f)
(p () f)))))
(λN A=>
ab (decide (e>=8))
(aa prog 140 [.agg [pS l,pI m,pS n,pI o]] A λM G=>
∃F,M=(pB F)/\
K (pB F) G)
(K (pB (aG l ⟨#[]⟩&&((m == 0)&&(aG n ⟨#[]⟩&&((o == 0)&&true))))) A)))))))))):aa prog 86 [.agg [pS q,pS r,pI s,pS t,pI u,pI b,pS v,pI g,pS w,pI x,pS i,pI d,pS j,pI k,pI e,pS l,pI m,pS n,pI o]] u0 K:=
VC [1] [] [(8,⟨[],[]⟩)] [] [] [] [] func86 h
def wR.c{z:Int}{o C:Bool}{f:ByteArray}{A B E F:Fl}{b d D e:Lq}(h:
aR false 1 16 .nil [] e u0 λg J=>
cg (α:=(Fl×Lq)) (λn=>
aa prog 88 [.list 1 g ([]++e),pS f] J λQ j=>
∃u,Q=(pB u)/\
ab (!u)
(ab (!o)
(K (.aB [.list 1 .nil [],pB false]) j)
(aR false 1 16 g ([]++e) [[pS f]] j λG M=>
n (G,(([]++e)++[[pS f]])) M))
(n (g,([]++e)) j))
(λt L=>
aR true 6 80 .nil [] b L λH N=>
aR false 6 80 H ([]++b) d N λS O=>
ak (α:=(Fl×Lq)×Int) (λi a k=>
ab (decide (a.2<((List.length (([]++b)++d):Nat):Int)))
(0<=a.2/\∃(p:List PV),((([]++b)++d))[toNat a.2]?=some p/\
∃v,az p 1 1=some [pS v]/\
ab (aG v ⟨#[]⟩)
(i ((a.1.1,a.1.2),(wrap .i64 (a.2+1))) k)
(0<=a.2/\∃(q:List PV),((([]++b)++d))[toNat a.2]?=some q/\
∃w,az q 1 1=some [pS w]/\
aa prog 88 [.list 1 a.1.1 a.1.2,pS w] k λR l=>
∃x,R=(pB x)/\
ab x
(i ((a.1.1,a.1.2),(wrap .i64 (a.2+1))) l)
(0<=a.2/\∃(r:List PV),((([]++b)++d))[toNat a.2]?=some r/\
∃y,az r 0 1=some [pI y]/\
ab (y != 1)
(K (.aB [.list 1 .nil [],pB false]) l)
(0<=a.2/\∃(s:List PV),((([]++b)++d))[toNat a.2]?=some s/\
∃m,az s 1 1=some [pS m]/\
aR false 1 16 a.1.1 a.1.2 [[pS m]] l λI P=>
i ((I,(a.1.2++[[pS m]])),(wrap .i64 (a.2+1))) P))))
(K (.aB [.list 1 a.1.1 a.1.2,pB true]) k))
((t.1,t.2),0) O)):aa prog 87 [.agg [pI z,pB o,pS f,.list 6 A b,.list 6 B d,pB C,.list 7 E D],.list 1 F e] u0 K:=
VC [2] [(8,⟨[(6,.one (.list 1)),(8,.one (.raw (.int .i64)))],[]⟩)] [(6,⟨[(6,.one (.list 1))],[]⟩)] [] [] [] [] func87 h
def wT.c{i:Fl}{b:Lq}{e:ByteArray}(h:
ak (α:=Int) (λj a d=>
ab (decide (a<(b.length:Int)))
(0<=a/\∃(f:List PV),(b)[toNat a]?=some f/\
∃g,az f 0 1=some [pS g]/\
ab (aG g e)
(K (pB true) d)
(j (wrap .i64 (a+1)) d))
(K (pB false) d))
(0) u0):aa prog 88 [.list 1 i b,pS e] u0 K:=
VC [] [(2,⟨[(5,.one (.raw (.int .i64)))],[]⟩)] [] [] [] [] [] func88 h
def qm.c{a:Int}{b j:Bool}{d:ByteArray}{f i l:Fl}{e g k:Lq}(h:
aa prog 141 [.list 6 f e] u0 λv s=>
∃p o,v=(.list 6 p o)/\
aa prog 141 [.list 6 i g] s λw t=>
∃r q,w=(.list 6 r q)/\
aa prog 39 [.list 7 l k] t λx u=>
∃n m,x=(.list 7 n m)/\
K (.agg [pI a,pB b,pS d,.list 6 p o,.list 6 r q,pB j,.list 7 n m]) u):aa prog 89 [.agg [pI a,pB b,pS d,.list 6 f e,.list 6 i g,pB j,.list 7 l k]] u0 K:=
VC [1,2] [] [] [] [] [] [] func89 h
def oA.c{a:Int}{b j:Bool}{d:ByteArray}{f i l:Fl}{e g k:Lq}(h:
aa prog 141 [.list 6 f e] u0 λy v=>
∃p r q,y=(pV p r q)/\
aa prog 141 [.list 6 i g] v λz w=>
∃s u t,z=(pV s u t)/\
aa prog 39 [.list 7 l k] w λA x=>
∃m o n,A=(pV m o n)/\
K (.agg [pI a,pB b,pS d,pV p r q,pV s u t,pB j,pV m o n]) x):aa prog 89 [.agg [pI a,pB b,pS d,.list 6 f e,.list 6 i g,pB j,.list 7 l k]] u0 K:=
VC [1,2] [] [] [] [] [] [2,5,9,13,14,15] func89 h
def pz.c{d:Option Addr}{e:ByteArray}(h:
ak (α:=Int) (λm a b=>
nP d λk n=>
∃p g,ay b k (n+2) 1=some [.list 3 p g]/\
ab (decide (a<(g.length:Int)))
(nP d λl o=>
∃q i,ay b l (o+2) 1=some [.list 3 q i]/\
0<=a/\∃(f:List PV),(i)[toNat a]?=some f/\
∃j,az f 0 1=some [pS j]/\
ab (aG j e)
(K (.aB [pI a,pB true]) b)
(m (wrap .i64 (a+1)) b))
(K (.aB [pI 0,pB false]) b))
(0) u0):aa prog 90 [pA d,pS e] u0 K:=
VC [] [(2,⟨[(6,.one (.raw (.int .i64)))],[]⟩)] [] [] [] [] [] func90 h
def pt.c{e:Option Addr}{g:ByteArray}{v w:Fl}{i j:Lq}(h:
nP e λx E=>
∃l k,ay u0 x (E+3) 1=some [.list 12 l k]/\
nP e λy F=>
∃m,ay u0 y F 1=some [pI m]/\
aa prog 142 [.agg [pS g,.list 7 .sh i,.list 19 .sh j],.list 12 l k,pI m] u0 λN L=>
∃o n d,N=(.aB [.list 3 o n,pA d])/\
ak (α:=Int×Int) (λD a b=>
nP d λz G=>
∃P p Q,ay b z G 1=some [pV P p Q]/\
ab (decide (a.2<((p:Nat):Int)))
(nP d λA H=>
∃q r R,ay b A H 1=some [pV q r R]/\
bh q λB I=>
0<=a.2/\a.2<((r:Nat):Int)/\
∃f,ay b B (I+toNat a.2*1) 1=some [pI f]/\
D ((if f>a.1 then f else a.1),(wrap .i64 (a.2+1))) b)
(nP d λC J=>
∃u,ay b C (J+2) 1=some [pB u]/\
dh prog 143 [.list 3 o n] b λO M=>
∃t s,O=(.list 3 t s)/\
K (.aB [.list 3 t s,pI a.1,pB (!u)]) (Mem.or b M)))
(0,0) L):aa prog 91 [pA e,.agg [pS g,.list 7 v i,.list 19 w j]] u0 K:=
VC [3] [(4,⟨[(9,.one (.raw (.int .i64))),(10,.one (.raw (.int .i64)))],[]⟩)] [] [] [] [] [27,28,36,37] func91 h
def ss.c{a e f i j l s:Int}{d g k:ByteArray}{q r:Bool}(h:
aa prog 144 [.agg [pI a,pS d,pI e]] u0 λu b=>
∃p,u=(pB p)/\
ab p
(ab (a == 1)
(aa prog 145 [.agg [pI f,pS g,pI i]] b λv m=>
∃n,v=(pB n)/\
ab n
(aa prog 144 [.agg [pI j,pS k,pI l]] m λw t=>
∃o,w=(pB o)/\
K (pB o) t)
(K (pB false) m))
(K (pB false) b))
(K (pB false) b)):aa prog 92 [.agg [pI a,pS d,pI e,pI f,pS g,pI i,pI j,pS k,pI l,pB q,pB r,pI s]] u0 K:=
VC [1] [] [] [] [] [] [] func92 h
def ot.c{b:Option Addr}(h:
ak (α:=(Fl×Lq)×(Fl×Lq)×Int×Bool×Int) (λy a d=>
nP b λr z=>
∃M k,ay d r (z+2) 1=some [.list 3 M k]/\
ab (decide (a.2.2.2.2<(k.length:Int)))
(nP b λs A=>
∃N l,ay d s (A+2) 1=some [.list 3 N l]/\
0<=a.2.2.2.2/\∃(i:List PV),(l)[toNat a.2.2.2.2]?=some i/\
∃m O n P o,az i 0 3=some [pS m,.list 7 O n,.list 19 P o]/\
aa prog 91 [pA b,.agg [pS m,.list 7 .sh n,.list 19 .sh o]] d λL j=>
∃Q e f p,L=(.aB [.list 3 Q e,pI f,pB p])/\
cg (α:=Bool) (λg=>
ab a.2.2.2.1
(g true j)
(g (!p) j))
(λE F=>
aR false 1 24 a.1.1 a.1.2 [[.list 3 .sh e]] F λw G=>
aR false 1 8 a.2.1.1 a.2.1.2 [[pI f]] G λx H=>
y ((w,(a.1.2++[[.list 3 .sh e]])),(x,(a.2.1.2++[[pI f]])),(wrap .i64 (a.2.2.1+(e.length:Int))),E,(wrap .i64 (a.2.2.2.2+1))) H))
(ab a.2.2.2.1
(K (pI 25) d)
(nP b λt B=>
∃q,ay d t (B+1) 1=some [pI q]/\
ab (decide (a.2.2.1>q))
(K (pI 26) d)
(nP b λu C=>
stM u (C+4) [.list 1 a.1.1 a.1.2] d λI=>
nP b λv D=>
stM v (D+5) [.list 1 a.2.1.1 a.2.1.2] I λJ=>
K (pI 0) J))))
((.nil,[]),(.nil,[]),0,false,0) u0):aa prog 93 [pA b] u0 K:=
VC [] [(6,⟨[(3,.one (.list 1)),(4,.one (.list 1)),(5,.one (.raw (.int .i64))),(6,.one (.raw .bool)),(7,.one (.raw (.int .i64)))],[]⟩)] [(10,⟨[(6,.one (.raw .bool))],[]⟩)] [] [] [] [] func93 h
def jO.c{a:ByteArray}(h:
K (.agg [pS a,pS ⟨#[]⟩,.list 7 .nil [],.list 19 .nil [],.list 1 .nil []]) u0):aa prog 95 [pS a] u0 K:=
VC [2] [] [] [] [] [] [] func95 h
def mD.c{a:Option Addr}(h:
K (.fn (.func 148) [] [.bt [pA a] 0]) u0):aa prog 97 [pA a] u0 K:=
VC [] [] [] [] [1] [] [] func97 h
def mz.c{y z:Fl}{b d:Lq}(h:
ab ((b.length:Int) != (d.length:Int))
(K (pB false) u0)
(ak (α:=Int) (λA a g=>
ab (decide (a<(b.length:Int)))
(0<=a/\∃(e:List PV),(b)[toNat a]?=some e/\
∃j k l C m D n o E p,az e 0 7=some [pI j,pB k,pS l,.list 6 C m,.list 6 D n,pB o,.list 7 E p]/\
0<=a/\∃(f:List PV),(d)[toNat a]?=some f/\
∃q r s F t G u v H w,az f 0 7=some [pI q,pB r,pS s,.list 6 F t,.list 6 G u,pB v,.list 7 H w]/\
aa prog 153 [.agg [pI j,pB k,pS l,.list 6 .sh m,.list 6 .sh n,pB o,.list 7 .sh p],.agg [pI q,pB r,pS s,.list 6 .sh t,.list 6 .sh u,pB v,.list 7 .sh w]] g λB i=>
∃x,B=(pB x)/\
ab (!x)
(K (pB false) i)
(A (wrap .i64 (a+1)) i))
(K (pB true) g))
(0) u0)):aa prog 102 [.list 7 y b,.list 7 z d] u0 K:=
VC [] [(4,⟨[(5,.one (.raw (.int .i64)))],[]⟩)] [] [] [] [] [] func102 h
def wZ.c{V W:Fl}{b d:Lq}(h:
ab ((b.length:Int) != (d.length:Int))
(K (pB false) u0)
(ak (α:=Int) (λX a e=>
ab (decide (a<(b.length:Int)))
(0<=a/\∃(f:List PV),(b)[toNat a]?=some f/\
∃i j k l m n o p q r s t u v w x y z A,az f 0 19=some [pS i,pS j,pI k,pS l,pI m,pI n,pS o,pI p,pS q,pI r,pS s,pI t,pS u,pI v,pI w,pS x,pI y,pS z,pI A]/\
0<=a/\∃(g:List PV),(d)[toNat a]?=some g/\
∃B C D E F G H I J L M N O P Q R S T U,az g 0 19=some [pS B,pS C,pI D,pS E,pI F,pI G,pS H,pI I,pS J,pI L,pS M,pI N,pS O,pI P,pI Q,pS R,pI S,pS T,pI U]/\
ab (!(aG i B&&(aG j C&&((k == D)&&(aG l E&&((m == F)&&((n == G)&&(aG o H&&((p == I)&&(aG q J&&((r == L)&&(aG s M&&((t == N)&&(aG u O&&((v == P)&&((w == Q)&&(aG x R&&((y == S)&&(aG z T&&((A == U)&&true))))))))))))))))))))
(K (pB false) e)
(X (wrap .i64 (a+1)) e))
(K (pB true) e))
(0) u0)):aa prog 103 [.list 19 V b,.list 19 W d] u0 K:=
VC [] [(4,⟨[(5,.one (.raw (.int .i64)))],[]⟩)] [] [] [] [] [] func103 h
def i_.c{a:Option Addr}(h:
ak (α:=Int) (λa5 b l=>
nP a λL b0=>
∃d7 n d8,ay l L (b0+3) 1=some [pV d7 n d8]/\
ab (decide (b<((n:Nat):Int)))
(ak (α:=Int) (λa6 g e=>
nP a λM b1=>
∃o p d9,ay e M (b1+3) 1=some [pV o p d9]/\
bh o λX c2=>
0<=b/\b<((p:Nat):Int)/\
∃e0 q e1,ay e X ((c2+toNat b*6)+5) 1=some [pV e0 q e1]/\
ab (decide (g<((q:Nat):Int)))
(nP a λY c3=>
∃r s e2,ay e Y (c3+3) 1=some [pV r s e2]/\
bh r λZ c4=>
0<=b/\b<((s:Nat):Int)/\
∃t u e3,ay e Z ((c4+toNat b*6)+5) 1=some [pV t u e3]/\
bh t λa0 c5=>
0<=g/\g<((u:Nat):Int)/\
stM a0 (c5+toNat g*3) [pI 0,pS ⟨#[]⟩,pI 0] e λd1=>
a6 (wrap .i64 (g+1)) d1)
(nP a λa1 c6=>
∃v w e4,ay e a1 (c6+3) 1=some [pV v w e4]/\
bh v λa2 c7=>
0<=b/\b<((w:Nat):Int)/\
stM a2 (c7+toNat b*6) [pI (-1),pS ⟨#[]⟩,pI 0,pS ⟨#[]⟩,pI 0,pV none 0 0] e λd2=>
a5 (wrap .i64 (b+1)) d2))
(0) l)
(ak (α:=Int) (λa7 d m=>
nP a λa3 c8=>
∃e5 x e6,ay m a3 (c8+4) 1=some [pV e5 x e6]/\
ab (decide (d<((x:Nat):Int)))
(ak (α:=Int) (λa8 i f=>
nP a λa4 c9=>
∃y z e7,ay f a4 (c9+4) 1=some [pV y z e7]/\
bh y λN b2=>
0<=d/\d<((z:Nat):Int)/\
∃e8 A e9,ay f N ((b2+toNat d*6)+5) 1=some [pV e8 A e9]/\
ab (decide (i<((A:Nat):Int)))
(nP a λO b3=>
∃B C f0,ay f O (b3+4) 1=some [pV B C f0]/\
bh B λP b4=>
0<=d/\d<((C:Nat):Int)/\
∃D E f1,ay f P ((b4+toNat d*6)+5) 1=some [pV D E f1]/\
bh D λQ b5=>
0<=i/\i<((E:Nat):Int)/\
stM Q (b5+toNat i*3) [pI 0,pS ⟨#[]⟩,pI 0] f λd3=>
a8 (wrap .i64 (i+1)) d3)
(nP a λR b6=>
∃F G f2,ay f R (b6+4) 1=some [pV F G f2]/\
bh F λS b7=>
0<=d/\d<((G:Nat):Int)/\
stM S (b7+toNat d*6) [pI (-1),pS ⟨#[]⟩,pI 0,pS ⟨#[]⟩,pI 0,pV none 0 0] f λd4=>
a7 (wrap .i64 (d+1)) d4))
(0) m)
(ak (α:=Int) (λa9 j k=>
nP a λT b8=>
∃f3 H f4,ay k T (b8+6) 1=some [pV f3 H f4]/\
ab (decide (j<((H:Nat):Int)))
(nP a λU b9=>
∃I J f5,ay k U (b9+6) 1=some [pV I J f5]/\
bh I λV c0=>
0<=j/\j<((J:Nat):Int)/\
aa prog 104 [pP V (c0+toNat j*7)] k λd6 d5=>
 d6=(.aB [])/\
a9 (wrap .i64 (j+1)) d5)
(nP a λW c1=>
stM W (c1+2) [pS ⟨#[103,111,110,101]⟩] k λd0=>
K (.aB []) d0))
(0) m))
(0) l))
(0) u0):aa prog 104 [pA a] u0 K:=
VC [] [(1,⟨[(2,.one (.raw (.int .i64)))],[]⟩),(4,⟨[(3,.one (.raw (.int .i64)))],[]⟩),(9,⟨[(4,.one (.raw (.int .i64)))],[]⟩),(12,⟨[(5,.one (.raw (.int .i64)))],[]⟩),(17,⟨[(6,.one (.raw (.int .i64)))],[]⟩)] [] [] [] [] [0,1,2,3,4,5,6,7,8,9,10,11,12,13,14,15,16,17,18,19,20,21,22,23,24,25,26,27,28,29,30,31,32,33,34,35,36,37,38,39,40,41,42,43,44,45,46,47,48,49,50,51,52,53,54,55,56,57,58,59,60,61,62,63,64,65,66,67,68,69,70,71,72,73,74,75,76,77,78,79,80,81,82,83,84,85,86,87,88,89,90,91,92,93,94,95,96,97,98,99,100,101,102,103,104,105] func104 h
def eU.c{a:Option Addr}(h:
K (.fn (.func 155) [] [.bt [pA a] 0]) u0):aa prog 108 [pA a] u0 K:=
VC [] [] [] [] [1] [] [] func108 h
def wL.c{u:Fl}{b:Lq}(h:
ak (α:=(Fl×Lq)×Int) (λw a m=>
ab (decide (a.2<(b.length:Int)))
(0<=a.2/\∃(l:List PV),(b)[toNat a.2]?=some l/\
∃n o p A q B r s C t,az l 0 7=some [pI n,pB o,pS p,.list 6 A q,.list 6 B r,pB s,.list 7 C t]/\
aa prog 112 [.agg [pI n,pB o,pS p,.list 6 .sh q,.list 6 .sh r,pB s,.list 7 .sh t]] m λz x=>
∃d e f D g E i j F k,z=(.agg [pI d,pB e,pS f,.list 6 D g,.list 6 E i,pB j,.list 7 F k])/\
aR false 7 112 a.1.1 a.1.2 [[pI d,pB e,pS f,.list 6 .sh g,.list 6 .sh i,pB j,.list 7 .sh k]] x λv y=>
w ((v,(a.1.2++[[pI d,pB e,pS f,.list 6 .sh g,.list 6 .sh i,pB j,.list 7 .sh k]])),(wrap .i64 (a.2+1))) y)
(K (.list 7 a.1.1 a.1.2) m))
((.nil,[]),0) u0):aa prog 109 [.list 7 u b] u0 K:=
VC [5] [(3,⟨[(3,.one (.list 7)),(8,.one (.raw (.int .i64)))],[]⟩)] [] [] [] [] [] func109 h
def rz.c{A:Fl}{b:Lq}(h:
ak (α:=(Option Addr×Nat×Nat)×Int) (λB a e=>
ab (decide (a.2<(b.length:Int)))
(0<=a.2/\∃(d:List PV),(b)[toNat a.2]?=some d/\
∃f g i I j J k l L m,az d 0 7=some [pI f,pB g,pS i,.list 6 I j,.list 6 J k,pB l,.list 7 L m]/\
aa prog 112 [.agg [pI f,pB g,pS i,.list 6 .sh j,.list 6 .sh k,pB l,.list 7 .sh m]] e λH F=>
∃n o p q s r t v u w x z y,H=(.agg [pI n,pB o,pS p,pV q s r,pV t v u,pB w,pV x z y])/\
eB 7 112 84 a.1.1 a.1.2.1 a.1.2.2 (.list 7 .nr [[pI n,pB o,pS p,pV q s r,pV t v u,pB w,pV x z y]]) F λC E D G=>
B ((C,E,D),(wrap .i64 (a.2+1))) G)
(K (pV a.1.1 a.1.2.1 a.1.2.2) e))
((none,0,0),0) u0):aa prog 109 [.list 7 A b] u0 K:=
VC [5] [(3,⟨[(3,.one (.raw .slice)),(8,.one (.raw (.int .i64)))],[]⟩)] [] [] [] [] [2,3,12,14,16,18] func109 h
def zR.c{l:ByteArray}{m R:Fl}{e f:Lq}(h:
aa prog 157 [.agg [pS l,.list 7 .sh e,.list 19 .sh f]] u0 λU g=>
∃t k,U=(.aB [pI t,pI k])/\
ab (k != 0)
(K (.aB [pI t,pI k,.list 1 .nil []]) g)
((0:Int)<=0/\∃(o:List PV),(e)[toNat 0]?=some o/\
∃u,az o 0 1=some [pI u]/\
ab (u != 1)
(K (.aB [pI 0,pI 9,.list 1 .nil []]) g)
(aa prog 158 [.list 1 .nil []] g λV S=>
∃v,V=(pA v)/\
cl S 294 [pA v,.list 1 .nil []] λb T=>
aa prog 159 [pP b 0,.list 7 m e,pI 0] T λW q=>
∃d w,W=(.aB [pI d,pB w])/\
ab (!w)
(K (.aB [pI d,pI 6,.list 1 .nil []]) q)
(ak (α:=Int) (λn a i=>
ab (decide (a<(f.length:Int)))
(0<=a/\∃(p:List PV),(f)[toNat a]?=some p/\
∃a0 x y z A B C D E F G H I J a1 a2 a3 a4 a5,az p 0 19=some [pS a0,pS x,pI y,pS z,pI A,pI B,pS C,pI D,pS E,pI F,pS G,pI H,pS I,pI J,pI a1,pS a2,pI a3,pS a4,pI a5]/\
aa prog 160 [pP b 0,.agg [pS x,pI y,pS z,pI A]] i λX j=>
∃L,X=(pB L)/\
ab L
(K (.aB [pI (wrap .i64 (d+a)),pI 6,.list 1 .nil []]) j)
(ab (B != 0)
(aa prog 160 [pP b 0,.agg [pS C,pI D,pS E,pI F]] j λY r=>
∃M,Y=(pB M)/\
ab M
(K (.aB [pI (wrap .i64 (d+a)),pI 6,.list 1 .nil []]) r)
(aa prog 160 [pP b 0,.agg [pS G,pI H,pS I,pI J]] r λZ s=>
∃N,Z=(pB N)/\
ab N
(K (.aB [pI (wrap .i64 (d+a)),pI 6,.list 1 .nil []]) s)
(n (wrap .i64 (a+1)) s)))
(n (wrap .i64 (a+1)) j)))
(∃O Q P,ay i b 1 1=some [pV O Q P]/\
K (.aB [pI (-1),pI 0,pV O Q P]) i))
(0) q)))):aa prog 110 [.agg [pS l,.list 7 m e,.list 19 R f]] u0 K:=
VC [1,10] [(11,⟨[(42,.one (.raw (.int .i64)))],[]⟩)] [] [] [] [] [78] func110 h
def zF.c{e n:Int}{f m o u:Bool}{g p:ByteArray}{j l T r t U:Fl}{i k b q s d:Lq}(h:
ab (e != n)
(K (pB false) u0)
(ab (!(f == o))
(K (pB false) u0)
(ab (!aG g p)
(K (pB false) u0)
(ab (!(m == u))
(K (pB false) u0)
(ab ((b.length:Int) != (d.length:Int))
(K (pB false) u0)
(aa prog 161 [.list 6 j i,.list 6 r q] u0 λW x=>
∃B,W=(pB B)/\
ab (!B)
(K (pB false) x)
(aa prog 161 [.list 6 l k,.list 6 t s] x λX y=>
∃C,X=(pB C)/\
ab (!C)
(K (pB false) y)
(ak (α:=Int) (λV a z=>
ab (decide (a<(b.length:Int)))
(0<=a/\∃(v:List PV),(b)[toNat a]?=some v/\
∃D E F Z G a0 H I a1 J,az v 0 7=some [pI D,pB E,pS F,.list 6 Z G,.list 6 a0 H,pB I,.list 7 a1 J]/\
0<=a/\∃(w:List PV),(d)[toNat a]?=some w/\
∃L M N a2 O a3 P Q a4 R,az w 0 7=some [pI L,pB M,pS N,.list 6 a2 O,.list 6 a3 P,pB Q,.list 7 a4 R]/\
aa prog 111 [.agg [pI D,pB E,pS F,.list 6 .sh G,.list 6 .sh H,pB I,.list 7 .sh J],.agg [pI L,pB M,pS N,.list 6 .sh O,.list 6 .sh P,pB Q,.list 7 .sh R]] z λY A=>
∃S,Y=(pB S)/\
ab (!S)
(K (pB false) A)
(V (wrap .i64 (a+1)) A))
(K (pB true) z))
(0) y)))))))):aa prog 111 [.agg [pI e,pB f,pS g,.list 6 j i,.list 6 l k,pB m,.list 7 T b],.agg [pI n,pB o,pS p,.list 6 r q,.list 6 t s,pB u,.list 7 U d]] u0 K:=
VC [2,3,6] [(4,⟨[(61,.one (.raw (.int .i64)))],[]⟩)] [] [] [] [] [] func111 h
def DG.c{a:Int}{b j:Bool}{d:ByteArray}{f i l:Fl}{e g k:Lq}(h:
aa prog 162 [.list 6 f e] u0 λv s=>
∃p o,v=(.list 6 p o)/\
aa prog 162 [.list 6 i g] s λw t=>
∃r q,w=(.list 6 r q)/\
aa prog 109 [.list 7 l k] t λx u=>
∃n m,x=(.list 7 n m)/\
K (.agg [pI a,pB b,pS d,.list 6 p o,.list 6 r q,pB j,.list 7 n m]) u):aa prog 112 [.agg [pI a,pB b,pS d,.list 6 f e,.list 6 i g,pB j,.list 7 l k]] u0 K:=
VC [1,2] [] [] [] [] [] [] func112 h
def pW.c{a:Int}{b j:Bool}{d:ByteArray}{f i l:Fl}{e g k:Lq}(h:
aa prog 162 [.list 6 f e] u0 λy v=>
∃p r q,y=(pV p r q)/\
aa prog 162 [.list 6 i g] v λz w=>
∃s u t,z=(pV s u t)/\
aa prog 109 [.list 7 l k] w λA x=>
∃m o n,A=(pV m o n)/\
K (.agg [pI a,pB b,pS d,pV p r q,pV s u t,pB j,pV m o n]) x):aa prog 112 [.agg [pI a,pB b,pS d,.list 6 f e,.list 6 i g,pB j,.list 7 l k]] u0 K:=
VC [1,2] [] [] [] [] [] [2,5,9,13,14,15] func112 h
def JO.c{b:Int}{d i:Bool}{e:ByteArray}{u v w o:Fl}{f g j n:Lq}{k:Fn}{l m:List PV}(h:
cl u0 121 [.list 4 o n] λa p=>
∃r q,ay p a 0 1=some [.list 4 r q]/\
aa prog 174 [.list 4 r q] p λz x=>
∃t s,z=(.list 4 t s)/\
stM a 0 [.list 4 t s] x λy=>
K (.fn (.func 175) [] [.bt [.fn k l m] 0,.bt [pI b,pB d,pS e,.list 6 .sh f,.list 6 .sh g,pB i,.list 7 .sh j] 0,pP a 0]) y):aa prog 115 [.agg [pI b,pB d,pS e,.list 6 u f,.list 6 v g,pB i,.list 7 w j],.fn k l m,.list 4 o n] u0 K:=
VC [] [] [] [] [3,4] [] [] func115 h
def yK.c{a:Option Addr}{s g:Int}{t y:Bool}{d:ByteArray}{v x A f:Fl}{u w z e:Lq}(h:
aa prog 177 [.list 4 f e,pS d] u0 λG D=>
∃j k l m,G=(.aB [.agg [pI j,pS k,pI l],pB m])/\
cl D 37 [pI 0,pS ⟨#[]⟩,pI 0] λi E=>
stM i 0 [pI j,pS k,pI l] E λb=>
ab (!m)
(∃n,az [pA a] 0 1=some [pA n]/\
nP n λB C=>
∃o,ay b B (C+3) 1=some [pA o]/\
aa prog 178 [pA o,pI g] b λH F=>
∃p q r,H=(.fn p q r)/\
K (.fn p q r) F)
(K (.fn (.func 179) [] [.bt [pA a] 0,pP i 0]) b)):aa prog 116 [pA a,.agg [pI s,pB t,pS d,.list 6 v u,.list 6 x w,pB y,.list 7 A z],.list 4 f e,pI g] u0 K:=
VC [5] [] [] [] [4] [] [] func116 h
def so.c{b:Option Addr}{a e:Int}(h:
nP b λq y=>
∃f g G,ay u0 q (y+2) 1=some [pV f g G]/\
nP b λr z=>
∃i j H,ay u0 r (z+2) 1=some [pV i j H]/\
bh i λs A=>
0<=a/\a<((j:Nat):Int)/\
∃k,ay u0 s (A+toNat a*1) 1=some [pI k]/\
bh f λt B=>
0<=a/\a<((g:Nat):Int)/\
stM t (B+toNat a*1) [pI (wrap .i64 (k+e))] u0 λd=>
nP b λu C=>
∃l m I,ay d u (C+2) 1=some [pV l m I]/\
bh l λv D=>
0<=a/\a<((m:Nat):Int)/\
∃n,ay d v (D+toNat a*1) 1=some [pI n]/\
nP b λw E=>
∃o,ay d w E 1=some [pA o]/\
nP o λx F=>
∃p,ay d x F 1=some [pI p]/\
K (pB (decide (n<=p))) d):aa prog 117 [pA b,pI a,pI e] u0 K:=
VC [] [] [] [] [] [] [9,10,14,15,24,25] func117 h
def CI.c{N:Option Addr}{e4 e5:Fl}{x O:Lq}{P:Int}(h:
cl u0 224 [pA N] λk f5=>
cl f5 3 [pI P] λf f6=>
cl f6 234 [.list 1 .nil []] λb g2=>
cl g2 4 [pB false] λd g9=>
ak (α:=(Fl×Lq)×Int) (λf1 g a8=>
ab (decide (g.2<(x.length:Int)))
(0<=g.2/\∃(a5:List PV),(x)[toNat g.2]?=some a5/\
∃l p q i5 r i6 s t b3 m,az a5 0 7=some [pI l,pB p,pS q,.list 6 i5 r,.list 6 i6 s,pB t,.list 7 b3 m]/\
cl a8 234 [.list 1 .nil []] λj h3=>
ak (α:=Int) (λn i a=>
ab (decide (i<((List.length g.1.2:Nat):Int)))
(0<=i/\∃(a6:List PV),(g.1.2)[toNat i]?=some a6/\
∃u e,az a6 0 1=some [.list 4 u e]/\
ab (l == 1)
(∃c2,ay a k 0 1=some [pA c2]/\
nP c2 λe6 f2=>
∃c3,ay a e6 f2 1=some [pA c3]/\
∃c4,ay a k 0 1=some [pA c4]/\
nP c4 λe7 f3=>
∃i8 c5,ay a e7 (f3+1) 1=some [.list 1 i8 c5]/\
∃H,ay a f 0 1=some [pI H]/\
0<=H/\∃(a7:List PV),(c5)[toNat H]?=some a7/\
∃c6,az a7 0 1=some [pI c6]/\
dh prog 116 [pA c3,.agg [pI l,pB p,pS q,.list 6 .sh r,.list 6 .sh s,pB t,.list 7 .sh m],.list 4 u e,pI c6] a λh6 h4=>
∃c7 c8 c9,h6=(.fn c7 c8 c9)/\
aa prog 115 [.agg [pI l,pB p,pS q,.list 6 .sh r,.list 6 .sh s,pB t,.list 7 .sh m],.fn c7 c8 c9,.list 4 u e] (Mem.or a h4) λh7 h5=>
∃d0 d1 d2,h7=(.fn d0 d1 d2)/\
bk prog (.fn d0 d1 d2) (λi4 M F=>
∃i9 j0 j1 j2 j3 j4 j5 j6 j7 j8 j9 k0 k1 I,i4=[.agg [pI i9,pS j0,pI j1,pI j2,pS j3,pI j4,pI j5,pS j6,pI j7,pB j8,pB j9,pI k0],.list 4 k1 I]/\
∃d3,ay F k 0 1=some [pA d3]/\
∃d4,ay F f 0 1=some [pI d4]/\
aa prog 117 [pA d3,pI d4,pI 1] F λh8 y=>
∃d5,h8=(pB d5)/\
ab (!d5)
(stM b 0 [.list 1 .nil []] y λf7=>
stM d 0 [pB false] f7 λf8=>
M (some .ret) f8)
(∃d6 J,ay y j 0 1=some [.list 1 d6 J]/\
aR false 1 24 d6 J [[.list 4 .sh I]] y λf0 f9=>
stM j 0 [.list 1 f0 (J++[[.list 4 .sh I]])] f9 λg0=>
M none g0))
(λf4 v=>
PK f4
(n (wrap .i64 (i+1)) v)
(∃Z Q,ay v b 0 1=some [.list 1 Z Q]/\
∃a0,ay v d 0 1=some [pB a0]/\
K (.aB [.list 1 Z Q,pB a0]) v)
[])
h5)
(ab (l == 2)
(∃d7,ay a k 0 1=some [pA d7]/\
∃d8,ay a f 0 1=some [pI d8]/\
aa prog 180 [pA d7,.agg [pI l,pB p,pS q,.list 6 .sh r,.list 6 .sh s,pB t,.list 7 .sh m],.list 4 u e,pI d8] a λh9 w=>
∃d9,h9=(pB d9)/\
ab d9
(n (wrap .i64 (i+1)) w)
(∃e0,ay w k 0 1=some [pA e0]/\
∃e1,ay w f 0 1=some [pI e1]/\
aa prog 117 [pA e0,pI e1,pI 1] w λi0 z=>
∃e2,i0=(pB e2)/\
ab (!e2)
(stM b 0 [.list 1 .nil []] z λg1=>
stM d 0 [pB false] g1 λA=>
∃S R,ay A b 0 1=some [.list 1 S R]/\
∃a1,ay A d 0 1=some [pB a1]/\
K (.aB [.list 1 S R,pB a1]) A)
(∃e3 L,ay z j 0 1=some [.list 1 e3 L]/\
aR false 1 24 e3 L [[.list 4 .sh e]] z λe8 g3=>
stM j 0 [.list 1 e8 (L++[[.list 4 .sh e]])] g3 λg4=>
n (wrap .i64 (i+1)) g4)))
(∃b4,ay a k 0 1=some [pA b4]/\
∃b5,ay a f 0 1=some [pI b5]/\
aa prog 118 [pA b4,.list 7 b3 m,.list 4 u e,pI (wrap .i64 (b5+1))] a λi1 o=>
∃i7 b6 b7,i1=(.aB [.list 1 i7 b6,pB b7])/\
ab (!b7)
(stM b 0 [.list 1 .nil []] o λg5=>
stM d 0 [pB false] g5 λB=>
∃U T,ay B b 0 1=some [.list 1 U T]/\
∃a2,ay B d 0 1=some [pB a2]/\
K (.aB [.list 1 U T,pB a2]) B)
(ab (decide ((b6.length:Int)>0))
(n (wrap .i64 (i+1)) o)
(∃b8,ay o k 0 1=some [pA b8]/\
∃b9,ay o f 0 1=some [pI b9]/\
aa prog 117 [pA b8,pI b9,pI 1] o λi2 C=>
∃c0,i2=(pB c0)/\
ab (!c0)
(stM b 0 [.list 1 .nil []] C λg6=>
stM d 0 [pB false] g6 λD=>
∃W V,ay D b 0 1=some [.list 1 W V]/\
∃a3,ay D d 0 1=some [pB a3]/\
K (.aB [.list 1 W V,pB a3]) D)
(∃c1 G,ay C j 0 1=some [.list 1 c1 G]/\
aR false 1 24 c1 G [[.list 4 .sh e]] C λe9 g7=>
stM j 0 [.list 1 e9 (G++[[.list 4 .sh e]])] g7 λg8=>
n (wrap .i64 (i+1)) g8))))))
(∃b0 a9,ay a j 0 1=some [.list 1 b0 a9]/\
∃b1,ay a f 0 1=some [pI b1]/\
dh prog 181 [.list 7 .nr [[pI l,pB p,pS q,.list 6 .sh r,.list 6 .sh s,pB t,.list 7 .sh m]]] a λi3 h0=>
∃b2,i3=(pI b2)/\
stM f 0 [pI (wrap .i64 (b1+b2))] (Mem.or a h0) λh1=>
f1 ((b0,a9),(wrap .i64 (g.2+1))) h1))
(0) h3)
(stM b 0 [.list 1 g.1.1 g.1.2] a8 λh2=>
stM d 0 [pB true] h2 λE=>
∃Y X,ay E b 0 1=some [.list 1 Y X]/\
∃a4,ay E d 0 1=some [pB a4]/\
K (.aB [.list 1 Y X,pB a4]) E))
((.nr,[[.list 4 .sh O]]),0) g9):aa prog 118 [pA N,.list 7 e4 x,.list 4 e5 O,pI P] u0 K:=
VC [12] [(3,⟨[(10,.one (.list 1)),(24,.one (.raw (.int .i64)))],[]⟩),(7,⟨[(30,.one (.raw (.int .i64)))],[]⟩)] [] [(78,[88,121])] [] [] [] func118 h
def xo.c{b:Option Addr}{d:Int}(h:
nP b λs v=>
∃f,ay u0 s (v+1) 1=some [pA f]/\
aa prog 182 [pA f,pI d] u0 λA a=>
∃g i j D k E l m F n e o p,A=(.aB [.agg [pI g,pB i,pS j,.list 6 D k,.list 6 E l,pB m,.list 7 F n,pI e,pA o],pB p])/\
ab (!p)
(K (pB false) a)
(ab (((wrap .i64 (e-1)):Int) == 0)
(nP b λt w=>
∃q,ay a t (w+1) 1=some [pA q]/\
aa prog 183 [pA q,pI d] a λB y=>
∃G H I L J N M O Q P R S T,B=(.aB [.agg [pI G,pB H,pS I,.list 6 L J,.list 6 N M,pB O,.list 7 Q P,pI R,pA S],pB T])/\
K (pB true) y)
(nP b λu x=>
∃r,ay a u (x+1) 1=some [pA r]/\
aa prog 169 [pA r,pI d,.agg [pI g,pB i,pS j,.list 6 .sh k,.list 6 .sh l,pB m,.list 7 .sh n,pI (wrap .i64 (e-1)),pA o]] a λC z=>
∃U,C=(pB U)/\
K (pB true) z))):aa prog 119 [pA b,pI d] u0 K:=
VC [5] [] [] [] [] [] [] func119 h
def JU.c{d a:Int}{b:ByteArray}(h:
ab (d == 1)
(ab ((((ByteArray.size b:Nat):Int):Int) == 1)
((0:Int)<=0/\∃r:UInt8,b[toNat 0]?=some r/\
aa prog 185 [.raw (.int .u8 ((UInt8.toNat r:Nat):Int))] u0 λj e=>
∃f,j=(pB f)/\
ab f
(ab (decide (a>=1))
(K (pB (decide (a<=1048576))) e)
(K (pB false) e))
(K (pB false) e))
(K (pB false) u0))
(ab (d == 2)
(ab (aG b ⟨#[]⟩)
(ab (decide (a>=(-2147483647)))
(K (pB (decide (a<=2147483647))) u0)
(K (pB false) u0))
(K (pB false) u0))
(ab (d == 3)
(ab (a == 0)
(aa prog 186 [pS b] u0 λk i=>
∃g,k=(pB g)/\
K (pB g) i)
(K (pB false) u0))
(K (pB false) u0)))):aa prog 122 [.agg [pI d,pS b,pI a]] u0 K:=
VC [1] [] [] [] [] [] [] func122 h
def yS.c{a:Option Addr}{i:Int}(h:
nP a λY a1=>
∃o,ay u0 Y a1 1=some [pA o]/\
aa prog 190 [pA o,pI i] u0 λa9 a4=>
∃p q r s t u v w x y z A B,a9=(.aB [.agg [pI p,pS q,pI r,pI s,pS t,pI u,pI v,pS w,pI x,pB y,pB z,pI A],pB B])/\
cl a4 88 [pI 0,pS ⟨#[]⟩,pI 0,pI 0,pS ⟨#[]⟩,pI 0,pI 0,pS ⟨#[]⟩,pI 0,pB false,pB false,pI 0] λj a5=>
stM j 0 [pI p,pS q,pI r,pI s,pS t,pI u,pI v,pS w,pI x,pB y,pB z,pI A] a5 λk=>
ab (!B)
(K (.aB [.list 1 .nil [],pI 4]) k)
(cl k 51 [.list 1 .nil []] λb l=>
nP a λZ a2=>
∃C,ay l Z (a2+1) 1=some [pA C]/\
aa prog 167 [pA C] l λb0 a6=>
∃D E F,b0=(.fn D E F)/\
bk prog (.fn D E F) (λb2 g m=>
∃e b3 b4 b5 b7 b6 b9 b8 c0 c2 c1 c3 G,b2=[pI e,.agg [pI b3,pB b4,pS b5,.list 6 b7 b6,.list 6 b9 b8,pB c0,.list 7 c2 c1,pI c3,pA G]]/\
∃H I J L M N O P Q R S T,ay m j 0 12=some [pI H,pS I,pI J,pI L,pS M,pI N,pI O,pS P,pI Q,pB R,pB S,pI T]/\
aa prog 191 [pA G,.agg [pI H,pS I,pI J,pI L,pS M,pI N,pI O,pS P,pI Q,pB R,pB S,pI T]] m λb1 d=>
∃U,b1=(pB U)/\
ab U
(∃V f,ay d b 0 1=some [.list 1 V f]/\
aR false 1 8 V f [[pI e]] d λa0 a7=>
stM b 0 [.list 1 a0 (f++[[pI e]])] a7 λa8=>
g none a8)
(g none d))
(λa3 n=>
PK a3
(∃X W,ay n b 0 1=some [.list 1 X W]/\
K (.aB [.list 1 X W,pI 0]) n)
(False)
[])
a6)):aa prog 132 [pA a,pI i] u0 K:=
VC [10] [] [] [(27,[191,196])] [] [] [] func132 h
end Go.Proofs.YthaeiehophlooaaGreat
