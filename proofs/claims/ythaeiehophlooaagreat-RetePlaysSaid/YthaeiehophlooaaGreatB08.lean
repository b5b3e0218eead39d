import Derived.Test.YthaeiehophlooaaGreatB07
open Go.IntKind (wrap)
open Int (tdiv tmod toNat)
open List (cons_append drop getElem?_eq_getElem getElem_mem length_cons length_map length_take mem_append mem_cons take take_add_one take_append_drop take_length)
open Option (bind_some isNone toList_some)
set_option linter.all false
namespace Go.Proofs.YthaeiehophlooaaGreat
open Go.Proofs.Tryz Go.aP
variable {u0:Mem} {K:Kq}
set_option maxRecDepth 100000
def Ac.c{b:Option Addr}{o q r t u w z:Int}{p s v:ByteArray}{x y:Bool}(h: cl u0 88 [pI o,pS p,pI q,pI r,pS s,pI t,pI u,pS v,pI w,pB x,pB y,pI z] λa d=> cg (α:=(Fl×Lq)×Int) (λm=> nP b λg1 g7=> ∃i,ay d g1 g7 1=some [pA i]/\ ∃j,ay d a 11 1=some [pI j]/\ (aa prog 192 [pA i,pI j] d λh9 h4=> ∃G I L N P R T V X Z a1 a3 a5,h9=(.aB [.agg [pI G,pS I,pI L,pI N,pS P,pI R,pI T,pS V,pI X,pB Z,pB a1,pI a3],pB a5])/\ cl h4 88 [pI 0,pS ⟨#[]⟩,pI 0,pI 0,pS ⟨#[]⟩,pI 0,pI 0,pS ⟨#[]⟩,pI 0,pB false,pB false,pI 0] λg2 h5=> stM g2 0 [pI G,pS I,pI L,pI N,pS P,pI R,pI T,pS V,pI X,pB Z,pB a1,pI a3] h5 λD=> ab a5 (K (.aB [.list 1 .nil [],pI 3]) D) (m ((.nil,[]),0) D))/\ (cl d 88 [pI 0,pS ⟨#[]⟩,pI 0,pI 0,pS ⟨#[]⟩,pI 0,pI 0,pS ⟨#[]⟩,pI 0,pB false,pB false,pI 0] λg3 h6=> aa prog 192 [pA i,pI j] h6 λi0 h7=> ∃H J M O Q S U W Y a0 a2 a4 a6,i0=(.aB [.agg [pI H,pS J,pI M,pI O,pS Q,pI S,pI U,pS W,pI Y,pB a0,pB a2,pI a4],pB a6])/\ stM g3 0 [pI H,pS J,pI M,pI O,pS Q,pI S,pI U,pS W,pI Y,pB a0,pB a2,pI a4] h7 λE=> ab a6 (K (.aB [.list 1 .nil [],pI 3]) E) (m ((.nil,[]),0) E))) (λj2 e=> nP b λg4 g8=> ∃a7,ay e g4 g8 1=some [pA a7]/\ ∃a8,ay e a 11 1=some [pI a8]/\ ∃a9 b0 b1 b2 b3 b4 b5 b6 b7 b8 b9 c0,ay e a 0 12=some [pI a9,pS b0,pI b1,pI b2,pS b3,pI b4,pI b5,pS b6,pI b7,pB b8,pB b9,pI c0]/\ aa prog 193 [pA a7,pI a8,.agg [pI a9,pS b0,pI b1,pI b2,pS b3,pI b4,pI b5,pS b6,pI b7,pB b8,pB b9,pI c0]] e λi1 h8=> ∃i6,i1=(pB i6)/\ cl h8 51 [.list 1 .nil []] λf F=> nP b λg5 g9=> ∃c1,ay F g5 (g9+1) 1=some [pA c1]/\ aa prog 167 [pA c1] F λi2 h1=> ∃c2 c3 c4,i2=(.fn c2 c3 c4)/\ bk prog (.fn c2 c3 c4) (λi5 n A=> ∃k c5 c6 c7 i7 c8 i8 c9 d0 i9 d1 j0 d2,i5=[pI k,.agg [pI c5,pB c6,pS c7,.list 6 i7 c8,.list 6 i8 c9,pB d0,.list 7 i9 d1,pI j0,pA d2]]/\ ∃d3 d4 d5 d6 d7 d8 d9 e0 e1 e2 e3 e4,ay A a 0 12=some [pI d3,pS d4,pI d5,pI d6,pS d7,pI d8,pI d9,pS e0,pI e1,pB e2,pB e3,pI e4]/\ aa prog 172 [.agg [pI c5,pB c6,pS c7,.list 6 .sh c8,.list 6 .sh c9,pB d0,.list 7 .sh d1],.agg [pI d3,pS d4,pI d5,pI d6,pS d7,pI d8,pI d9,pS e0,pI e1,pB e2,pB e3,pI e4]] A λi3 g=> ∃e5,i3=(pB e5)/\ ab e5 (∃e6 e7 e8 e9 f0 f1 f2 f3 f4 f5 f6 f7,ay g a 0 12=some [pI e6,pS e7,pI e8,pI e9,pS f0,pI f1,pI f2,pS f3,pI f4,pB f5,pB f6,pI f7]/\ aa prog 173 [pA d2,.agg [pI e6,pS e7,pI e8,pI e9,pS f0,pI f1,pI f2,pS f3,pI f4,pB f5,pB f6,pI f7]] g λi4 C=> ∃j1,i4=(pB j1)/\ ∃f8 l,ay C f 0 1=some [.list 1 f8 l]/\ aR false 1 8 f8 l [[pI k]] C λg6 h2=> stM f 0 [.list 1 g6 (l++[[pI k]])] h2 λh3=> n none h3) (n none g)) (λh0 B=> PK h0 (∃g0 f9,ay B f 0 1=some [.list 1 g0 f9]/\ K (.aB [.list 1 g0 f9,pI 0]) B) (False) []) h1)):aa prog 136 [pA b,.agg [pI o,pS p,pI q,pI r,pS s,pI t,pI u,pS v,pI w,pB x,pB y,pI z]] u0 K:= VC [10] [] [(4,⟨[(4,.one (.list 1)),(5,.one (.raw (.int .i64)))],[]⟩)] [(35,[191,196])] [] [] [] func136 h
def CJ.c{d e:Option Addr}(h: nP d λl n=> ∃p b,ay u0 l (n+8) 1=some [.list 1 p b]/\ ak (α:=Int) (λm a g=> ab (decide (a<(b.length:Int))) (0<=a/\∃(f:List PV),(b)[toNat a]?=some f/\ ∃j,az f 0 1=some [pI j]/\ aa prog 194 [pA e,pI j] g λo i=> ∃q k,o=(.aB [pI q,pB k])/\ ab k (K (pB true) i) (m (wrap .i64 (a+1)) i)) (K (pB false) g)) (0) u0):aa prog 137 [pA d,pA e] u0 K:= VC [] [(2,⟨[(14,.one (.raw (.int .i64)))],[]⟩)] [] [] [] [] [] func137 h
def uP.c{a:Int}(h: ab (decide (a>=97)) (ab (decide (a<=122)) (K (pB true) u0) (ab (decide (a>=48)) (ab (decide (a<=57)) (K (pB true) u0) (ab (a == 45) (K (pB true) u0) (K (pB (a == 95)) u0))) (ab (a == 45) (K (pB true) u0) (K (pB (a == 95)) u0)))) (ab (decide (a>=48)) (ab (decide (a<=57)) (K (pB true) u0) (ab (a == 45) (K (pB true) u0) (K (pB (a == 95)) u0))) (ab (a == 45) (K (pB true) u0) (K (pB (a == 95)) u0)))):aa prog 138 [.raw (.int .u8 a)] u0 K:= VC [] [] [] [] [] [] [] func138 h
def uL.c{d m:Int}{i l:Bool}{f:ByteArray}{j k s:Fl}{a e g:Lq}(h: ab (decide (d<1)) (K (pI 9) u0) (ab (decide (d>3)) (K (pI 9) u0) (ab (d == 3) (ab i (K (pI 9) u0) (ab (!aG f ⟨#[]⟩) (K (pI 9) u0) (ab (decide ((a.length:Int)>0)) (K (pI 9) u0) (ab (decide ((e.length:Int)>0)) (K (pI 9) u0) (ab l (K (pI 9) u0) (ab ((g.length:Int) == 0) (K (pI 9) u0) (ab (decide (m>=3)) (K (pI 8) u0) (K (pI 0) u0)))))))) (ab (decide ((g.length:Int)>0)) (K (pI 9) u0) (aa prog 84 [pS f] u0 λt b=> ∃p,t=(pB p)/\ ab (!p) (K (pI 9) b) (ab ((a.length:Int) == 0) (K (pI 9) b) (ab (decide ((a.length:Int)>4)) (K (pI 7) b) (ab (decide ((e.length:Int)>4)) (K (pI 7) b) (aa prog 195 [.list 6 j a] b λu n=> ∃q,u=(pB q)/\ ab (!q) (K (pI 9) n) (aa prog 195 [.list 6 k e] n λv o=> ∃r,v=(pB r)/\ ab (!r) (K (pI 9) o) (K (pI 0) o))))))))))):aa prog 139 [.agg [pI d,pB i,pS f,.list 6 j a,.list 6 k e,pB l,.list 7 s g],pI m] u0 K:= VC [2] [] [] [] [] [] [] func139 h
def uM.c{a d:ByteArray}{b e:Int}(h: ab (!aG a ⟨#[]⟩) (aa prog 84 [pS a] u0 λk f=> ∃i,k=(pB i)/\ ab i (K (pB ((b == 0)&&(aG d ⟨#[]⟩&&((e == 0)&&true)))) f) (K (pB false) f)) (aa prog 145 [.agg [pI b,pS d,pI e]] u0 λl j=> ∃g,l=(pB g)/\ K (pB g) j)):aa prog 140 [.agg [pS a,pI b,pS d,pI e]] u0 K:= VC [1] [] [] [] [] [] [] func140 h
def pC.c{p:Fl}{b:Lq}(h: ak (α:=(Fl×Lq)×Int) (λr a m=> ab (decide (a.2<(b.length:Int))) (0<=a.2/\∃(k:List PV),(b)[toNat a.2]?=some k/\ ∃d e f g i w v,az k 0 6=some [pI d,pS e,pI f,pS g,pI i,.list 3 w v]/\ 0<=a.2/\∃(l:List PV),(b)[toNat a.2]?=some l/\ ∃o n,az l 5 1=some [.list 3 o n]/\ aa prog 196 [.list 3 o n] m λu s=> ∃x j,u=(.list 3 x j)/\ aR false 6 80 a.1.1 a.1.2 [[pI d,pS e,pI f,pS g,pI i,.list 3 .sh j]] s λq t=> r ((q,(a.1.2++[[pI d,pS e,pI f,pS g,pI i,.list 3 .sh j]])),(wrap .i64 (a.2+1))) t) (K (.list 6 a.1.1 a.1.2) m)) ((.nil,[]),0) u0):aa prog 141 [.list 6 p b] u0 K:= VC [5] [(3,⟨[(3,.one (.list 6)),(4,.one (.raw (.int .i64)))],[]⟩)] [] [] [] [] [] func141 h
def nB.c{r:Fl}{b:Lq}(h: ak (α:=(Option Addr×Nat×Nat)×Int) (λs a f=> ab (decide (a.2<(b.length:Int))) (0<=a.2/\∃(d:List PV),(b)[toNat a.2]?=some d/\ ∃g i j k l A z,az d 0 6=some [pI g,pS i,pI j,pS k,pI l,.list 3 A z]/\ 0<=a.2/\∃(e:List PV),(b)[toNat a.2]?=some e/\ ∃n m,az e 5 1=some [.list 3 n m]/\ aa prog 196 [.list 3 n m] f λy w=> ∃o q p,y=(pV o q p)/\ eB 6 80 102 a.1.1 a.1.2.1 a.1.2.2 (.list 6 .nr [[pI g,pS i,pI j,pS k,pI l,pV o q p]]) w λt v u x=> s ((t,v,u),(wrap .i64 (a.2+1))) x) (K (pV a.1.1 a.1.2.1 a.1.2.2) f)) ((none,0,0),0) u0):aa prog 141 [.list 6 r b] u0 K:= VC [5] [(3,⟨[(3,.one (.raw .slice)),(4,.one (.raw (.int .i64)))],[]⟩)] [] [] [] [] [2,3,21,23,26,27] func141 h
def rB.c{k:ByteArray}{b m e:Fl}{a l d:Lq}{f:Int}(h: cl u0 262 [pV none 0 0,pI f,pB false] λg n=> aa prog 197 [.list 7 b a,pI 0,.list 3 .nr [[.list 1 .sh [],.list 4 .sh [],pI 0]],.list 12 e d,pP g 0] n λp o=> ∃j i,p=(.list 3 j i)/\ K (.aB [.list 3 j i,pP g 0]) o):aa prog 142 [.agg [pS k,.list 7 b a,.list 19 m l],.list 12 e d,pI f] u0 K:= VC [3] [] [] [] [] [] [2011000] func142 h
def rA.c{F:Fl}{f:Lq}(h: ak (α:=(Option Addr×Nat×Nat)×Int) (λL a o=> ab (decide (a.2<(f.length:Int))) (cg (α:=Int) (λl=> ak (α:=Int) (λM d j=> ab (decide (d>0)) (0<=a.2/\∃(m:List PV),(f)[toNat a.2]?=some m/\ ∃r q,az m 0 1=some [.list 1 r q]/\ bh a.1.1 λG O=> 0<=(wrap .i64 (d-1))/\(wrap .i64 (d-1))<((a.1.2.1:Nat):Int)/\ ∃t s,ay j G (O+toNat (wrap .i64 (d-1))*3) 1=some [.list 1 t s]/\ aa prog 198 [.list 1 r q,.list 1 t s] j λX p=> ∃u,X=(pB u)/\ ab u (M (wrap .i64 (d-1)) p) (l d p)) (l d j)) ((a.1.2.1:Nat):Int) o) (λi T=> eB 3 56 213 a.1.1 a.1.2.1 a.1.2.2 (.list 3 .nr [[.list 1 .sh [],.list 4 .sh [],pI 0]]) T λg e S U=> ak (α:=Int) (λN b k=> ab (decide (b>i)) (bh g λH P=> 0<=(wrap .i64 (b-1))/\(wrap .i64 (b-1))<((e:Nat):Int)/\ ∃w v y x z,ay k H (P+toNat (wrap .i64 (b-1))*3) 3=some [.list 1 w v,.list 4 y x,pI z]/\ bh g λI Q=> 0<=b/\b<((e:Nat):Int)/\ stM I (Q+toNat b*3) [.list 1 w v,.list 4 y x,pI z] k λV=> N (wrap .i64 (b-1)) V) (0<=a.2/\∃(n:List PV),(f)[toNat a.2]?=some n/\ ∃B A D C E,az n 0 3=some [.list 1 B A,.list 4 D C,pI E]/\ bh g λJ R=> 0<=i/\i<((e:Nat):Int)/\ stM J (R+toNat i*3) [.list 1 B A,.list 4 D C,pI E] k λW=> L ((g,e,S),(wrap .i64 (a.2+1))) W)) (wrap .i64 (((e:Nat):Int)-1)) U)) (K (pV a.1.1 a.1.2.1 a.1.2.2) o)) ((none,0,0),0) u0):aa prog 143 [.list 3 F f] u0 K:= VC [] [(3,⟨[(3,.one (.raw .slice)),(4,.one (.raw (.int .i64)))],[]⟩),(6,⟨[(5,.one (.raw (.int .i64)))],[]⟩),(10,⟨[(6,.one (.raw (.int .i64)))],[]⟩)] [(8,⟨[(5,.one (.raw (.int .i64)))],[]⟩)] [] [] [] [2,3,13,23,33,36,37,45,47,53,60] func143 h
def sA.c{d b:Int}{a:ByteArray}(h: ab (d == 1) (ab ((((ByteArray.size a:Nat):Int):Int) == 1) ((0:Int)<=0/\∃j:UInt8,a[toNat 0]?=some j/\ ab (decide ((((UInt8.toNat j:Nat):Int):Int)>=65)) ((0:Int)<=0/\∃i:UInt8,a[toNat 0]?=some i/\ ab (decide ((((UInt8.toNat i:Nat):Int):Int)<=90)) (ab (decide (b>=1)) (K (pB (decide (b<=1048576))) u0) (K (pB false) u0)) (K (pB false) u0)) (K (pB false) u0)) (K (pB false) u0)) (ab (d == 2) (ab (aG a ⟨#[]⟩) (ab (decide (b>=(-2147483647))) (K (pB (decide (b<=2147483647))) u0) (K (pB false) u0)) (K (pB false) u0)) (ab (d == 3) (ab (b == 0) (aa prog 84 [pS a] u0 λg f=> ∃e,g=(pB e)/\ K (pB e) f) (K (pB false) u0)) (K (pB false) u0)))):aa prog 144 [.agg [pI d,pS a,pI b]] u0 K:= VC [1] [] [] [] [] [] [] func144 h
def sB.c{a d:Int}{b:ByteArray}(h: aa prog 144 [.agg [pI a,pS b,pI d]] u0 λg e=> ∃f,g=(pB f)/\ ab f (K (pB (a != 1)) e) (K (pB false) e)):aa prog 145 [.agg [pI a,pS b,pI d]] u0 K:= VC [1] [] [] [] [] [] [] func145 h
def wY.c{a m:Int}{b j n t:Bool}{d o:ByteArray}{f i l q s v:Fl}{e g k p r u:Lq}(h: ab (a == m) (ab (b == n) (ab (aG d o) (ab (j == t) (aa prog 205 [.list 6 f e,.list 6 q p] u0 λC w=> ∃y,C=(pB y)/\ ab y (aa prog 205 [.list 6 i g,.list 6 s r] w λD x=> ∃z,D=(pB z)/\ ab z (aa prog 102 [.list 7 l k,.list 7 v u] x λE B=> ∃A,E=(pB A)/\ K (pB A) B) (K (pB false) x)) (K (pB false) w)) (K (pB false) u0)) (K (pB false) u0)) (K (pB false) u0)) (K (pB false) u0)):aa prog 153 [.agg [pI a,pB b,pS d,.list 6 f e,.list 6 i g,pB j,.list 7 l k],.agg [pI m,pB n,pS o,.list 6 q p,.list 6 s r,pB t,.list 7 v u]] u0 K:= VC [2,3] [] [] [] [] [] [] func153 h
def DC.c{m:ByteArray}{j S:Fl}{i b:Lq}(h: aa prog 186 [pS m] u0 λa0 o=> ∃q,a0=(pB q)/\ ab (!q) (K (.aB [pI (-1),pI 2]) o) (cl o 3 [pI 0] λd U=> stM d 0 [pI 0] U λV=> aa prog 164 [.list 7 j i,pI 0,pI 0,.fn (.func 206) [] [pP d 0]] V λa1 a=> ∃a4 a5,a1=(.aB [pI a4,pB a5])/\ ∃r,ay a d 0 1=some [pI r]/\ ab (decide (r<1)) (K (.aB [pI (-1),pI 7]) a) (∃s,ay a d 0 1=some [pI s]/\ ab (decide (s>16)) (K (.aB [pI (-1),pI 7]) a) (ab (decide ((b.length:Int)<1)) (K (.aB [pI (-1),pI 7]) a) (ab (decide ((b.length:Int)>16)) (K (.aB [pI (-1),pI 7]) a) (cl a 3 [pI 0] λk W=> cl W 30 [pI 0] λg X=> stM k 0 [pI (-1)] X λY=> stM g 0 [pI 0] Y λZ=> aa prog 164 [.list 7 j i,pI 0,pI 0,.fn (.func 207) [] [pP g 0,pP k 0]] Z λa2 f=> ∃a6 a7,a2=(.aB [pI a6,pB a7])/\ ∃t,ay f g 0 1=some [pI t]/\ ab (t != 0) (∃u,ay f k 0 1=some [pI u]/\ ∃v,ay f g 0 1=some [pI v]/\ K (.aB [pI u,pI v]) f) (ak (α:=Int) (λT e p=> ab (decide (e<(b.length:Int))) (0<=e/\∃(n:List PV),(b)[toNat e]?=some n/\ ∃w x y z A B C D E F G H I J L M N O P,az n 0 19=some [pS w,pS x,pI y,pS z,pI A,pI B,pS C,pI D,pS E,pI F,pS G,pI H,pS I,pI J,pI L,pS M,pI N,pS O,pI P]/\ aa prog 209 [.agg [pS w,pS x,pI y,pS z,pI A,pI B,pS C,pI D,pS E,pI F,pS G,pI H,pS I,pI J,pI L,pS M,pI N,pS O,pI P]] p λa3 l=> ∃Q,a3=(pB Q)/\ ab (!Q) (∃R,ay l d 0 1=some [pI R]/\ K (.aB [pI (wrap .i64 (R+e)),pI 9]) l) (T (wrap .i64 (e+1)) l)) (K (.aB [pI (-1),pI 0]) p)) (0) f))))))):aa prog 157 [.agg [pS m,.list 7 j i,.list 19 S b]] u0 K:= VC [1,8] [(12,⟨[(46,.one (.raw (.int .i64)))],[]⟩)] [] [] [] [] [] func157 h
def pE.c{i:Fl}{b:Lq}(h: cl u0 343 [.list 1 .nil [],pB false] λd k=> ak (α:=Int) (λj a f=> ab (decide (a<(b.length:Int))) (0<=a/\∃(e:List PV),(b)[toNat a]?=some e/\ ∃g,az e 0 1=some [pS g]/\ aa prog 210 [pP d 0,pS g] f λm l=> ∃n,m=(pB n)/\ j (wrap .i64 (a+1)) l) (K (pP d 0) f)) (0) k):aa prog 158 [.list 1 i b] u0 K:= VC [] [(3,⟨[(10,.one (.raw (.int .i64)))],[]⟩)] [] [] [] [] [] func158 h
def kU.c{d:Option Addr}{A:Fl}{e:Lq}{k:Int}(h: ak (α:=Int×Int) (λl a f=> ab (decide (a.2<(e.length:Int))) (0<=a.2/\∃(m:List PV),(e)[toNat a.2]?=some m/\ ∃b r s F t G u v w g,az m 0 7=some [pI b,pB r,pS s,.list 6 F t,.list 6 G u,pB v,.list 7 w g]/\ cg (α:=Option Addr) (λj=> ab (b != 1) (aa prog 211 [pA d] f λC B=> ∃x,C=(pA x)/\ j x B) (j d f)) (λn o=> ab (b == 3) (aa prog 159 [pA n,.list 7 w g,pI (wrap .i64 (a.1+1))] o λD p=> ∃i y,D=(.aB [pI i,pB y])/\ ab (!y) (K (.aB [pI i,pB false]) p) (l (i,(wrap .i64 (a.2+1))) p)) (aa prog 212 [pA n,.agg [pI b,pB r,pS s,.list 6 .sh t,.list 6 .sh u,pB v,.list 7 .sh g]] o λE q=> ∃z,E=(pB z)/\ ab (!z) (K (.aB [pI a.1,pB false]) q) (l ((wrap .i64 (a.1+1)),(wrap .i64 (a.2+1))) q)))) (K (.aB [pI a.1,pB true]) f)) (k,0) u0):aa prog 159 [pA d,.list 7 A e,pI k] u0 K:= VC [9] [(2,⟨[(2,.one (.raw (.int .i64))),(15,.one (.raw (.int .i64)))],[]⟩)] [(7,⟨[(10,.one (.raw .ptr))],[]⟩)] [] [] [] [] func159 h
def sj.c{b:Option Addr}{a f:ByteArray}{e g:Int}(h: ab (!aG a ⟨#[]⟩) (aa prog 213 [pA b,pS a] u0 λj i=> ∃d,j=(pB d)/\ K (pB (!d)) i) (K (pB false) u0)):aa prog 160 [pA b,.agg [pS a,pI e,pS f,pI g]] u0 K:= VC [3] [] [] [] [] [] [] func160 h
def Hm.c{E F:Fl}{e g:Lq}(h: ab ((e.length:Int) != (g.length:Int)) (K (pB false) u0) (ak (α:=Int) (λG a d=> ab (decide (a<(e.length:Int))) (0<=a/\∃(k:List PV),(e)[toNat a]?=some k/\ ∃o p q r s I f,az k 0 6=some [pI o,pS p,pI q,pS r,pI s,.list 3 I f]/\ 0<=a/\∃(l:List PV),(g)[toNat a]?=some l/\ ∃t u v w x J j,az l 0 6=some [pI t,pS u,pI v,pS w,pI x,.list 3 J j]/\ ab (o != t) (K (pB false) d) (ab (!aG p u) (K (pB false) d) (ab (!((q == v)&&(aG r w&&((s == x)&&true)))) (K (pB false) d) (ab ((f.length:Int) != (j.length:Int)) (K (pB false) d) (ak (α:=Int) (λH b i=> ab (decide (b<(f.length:Int))) (0<=b/\∃(m:List PV),(f)[toNat b]?=some m/\ ∃y z A,az m 0 3=some [pI y,pS z,pI A]/\ 0<=b/\∃(n:List PV),(j)[toNat b]?=some n/\ ∃B C D,az n 0 3=some [pI B,pS C,pI D]/\ ab (!((y == B)&&(aG z C&&((A == D)&&true)))) (K (pB false) i) (H (wrap .i64 (b+1)) i)) (G (wrap .i64 (a+1)) i)) (0) d))))) (K (pB true) d)) (0) u0)):aa prog 161 [.list 6 E e,.list 6 F g] u0 K:= VC [6,7,9] [(4,⟨[(17,.one (.raw (.int .i64)))],[]⟩),(10,⟨[(57,.one (.raw (.int .i64)))],[]⟩)] [] [] [] [] [] func161 h
def Hk.c{m:Fl}{d:Lq}(h: ak (α:=(Fl×Lq)×Int) (λo a l=> ab (decide (a.2<(d.length:Int))) (0<=a.2/\∃(k:List PV),(d)[toNat a.2]?=some k/\ ∃e f g i j r b,az k 0 6=some [pI e,pS f,pI g,pS i,pI j,.list 3 r b]/\ aR false 3 32 .nil [] b l λs p=> aR false 6 80 a.1.1 a.1.2 [[pI e,pS f,pI g,pS i,pI j,.list 3 .sh ([]++b)]] p λn q=> o ((n,(a.1.2++[[pI e,pS f,pI g,pS i,pI j,.list 3 .sh ([]++b)]])),(wrap .i64 (a.2+1))) q) (K (.list 6 a.1.1 a.1.2) l)) ((.nil,[]),0) u0):aa prog 162 [.list 6 m d] u0 K:= VC [5] [(3,⟨[(3,.one (.list 6)),(8,.one (.raw (.int .i64)))],[]⟩)] [] [] [] [] [] func162 h
def CK.c{n:Fl}{b:Lq}(h: ak (α:=(Option Addr×Nat×Nat)×Int) (λo a e=> ab (decide (a.2<(b.length:Int))) (0<=a.2/\∃(d:List PV),(b)[toNat a.2]?=some d/\ ∃f g i j k m l,az d 0 6=some [pI f,pS g,pI i,pS j,pI k,.list 3 m l]/\ eB 3 32 37 none 0 0 (.list 3 m l) e λp r q v=> eB 6 80 102 a.1.1 a.1.2.1 a.1.2.2 (.list 6 .nr [[pI f,pS g,pI i,pS j,pI k,pV p r q]]) v λs u t w=> o ((s,u,t),(wrap .i64 (a.2+1))) w) (K (pV a.1.1 a.1.2.1 a.1.2.2) e)) ((none,0,0),0) u0):aa prog 162 [.list 6 n b] u0 K:= VC [5] [(3,⟨[(3,.one (.raw .slice)),(8,.one (.raw (.int .i64)))],[]⟩)] [] [] [] [] [2,3,14,16,19,21] func162 h
def wH.c{y:Fl}{b:Lq}{k d:Int}{e:Fn}{f g:List PV}(h: ak (α:=Int×Int) (λz a m=> ab (decide (a.2<(b.length:Int))) (0<=a.2/\∃(l:List PV),(b)[toNat a.2]?=some l/\ ∃p q r C s D t u v i,az l 0 7=some [pI p,pB q,pS r,.list 6 C s,.list 6 D t,pB u,.list 7 v i]/\ bP prog (.fn e f g) [pI a.1,pI d,.agg [pI p,pB q,pS r,.list 6 .sh s,.list 6 .sh t,pB u,.list 7 .sh i]] m λA n=> ∃w,A=(pB w)/\ ab (!w) (K (.aB [pI a.1,pB false]) n) (aa prog 164 [.list 7 v i,pI (wrap .i64 (a.1+1)),pI (wrap .i64 (d+1)),.fn e f g] n λB o=> ∃j x,B=(.aB [pI j,pB x])/\ ab (!x) (K (.aB [pI j,pB false]) o) (z (j,(wrap .i64 (a.2+1))) o))) (K (.aB [pI a.1,pB true]) m)) (k,0) u0):aa prog 164 [.list 7 y b,pI k,pI d,.fn e f g] u0 K:= VC [11] [(2,⟨[(1,.one (.raw (.int .i64))),(15,.one (.raw (.int .i64)))],[]⟩)] [] [] [] [] [] func164 h
def CR.c{p:Int}{a g:Bool}{q:ByteArray}{d f s:Fl}{b e r:Lq}(h: dh prog 214 [.list 6 d b] u0 λu i=> ∃m o n,u=(pV m o n)/\ dh prog 214 [.list 6 f e] (Mem.or u0 i) λv t=> ∃j l k,v=(pV j l k)/\ K (.agg [pI 1,pB a,pS ⟨#[]⟩,pV m o n,pV j l k,pB g,.list 7 .nil []]) (Mem.or (Mem.or u0 i) t)):aa prog 166 [.agg [pI p,pB a,pS q,.list 6 d b,.list 6 f e,pB g,.list 7 s r]] u0 K:= VC [1,2] [] [] [] [] [] [2,9,12,13] func166 h
def fZ.c{a:Option Addr}(h: K (.fn (.func 215) [] [.bt [pA a] 0]) u0):aa prog 167 [pA a] u0 K:= VC [] [] [] [] [1] [] [] func167 h
def Hn.c{E F:Fl}{e g:Lq}(h: ab ((e.length:Int) != (g.length:Int)) (K (pB false) u0) (ak (α:=Int) (λG a d=> ab (decide (a<(e.length:Int))) (0<=a/\∃(k:List PV),(e)[toNat a]?=some k/\ ∃o p q r s I f,az k 0 6=some [pI o,pS p,pI q,pS r,pI s,.list 3 I f]/\ 0<=a/\∃(l:List PV),(g)[toNat a]?=some l/\ ∃t u v w x J j,az l 0 6=some [pI t,pS u,pI v,pS w,pI x,.list 3 J j]/\ ab (o != t) (K (pB false) d) (ab (!aG p u) (K (pB false) d) (ab (!((q == v)&&(aG r w&&((s == x)&&true)))) (K (pB false) d) (ab ((f.length:Int) != (j.length:Int)) (K (pB false) d) (ak (α:=Int) (λH b i=> ab (decide (b<(f.length:Int))) (0<=b/\∃(m:List PV),(f)[toNat b]?=some m/\ ∃y z A,az m 0 3=some [pI y,pS z,pI A]/\ 0<=b/\∃(n:List PV),(j)[toNat b]?=some n/\ ∃B C D,az n 0 3=some [pI B,pS C,pI D]/\ ab (!((y == B)&&(aG z C&&((A == D)&&true)))) (K (pB false) i) (H (wrap .i64 (b+1)) i)) (G (wrap .i64 (a+1)) i)) (0) d))))) (K (pB true) d)) (0) u0)):aa prog 168 [.list 6 E e,.list 6 F g] u0 K:= VC [6,7,9] [(4,⟨[(17,.one (.raw (.int .i64)))],[]⟩),(10,⟨[(57,.one (.raw (.int .i64)))],[]⟩)] [] [] [] [] [] func168 h
def gT.c{a:Option Addr}(h: K (.fn (.func 220) [] [.bt [pA a] 0]) u0):aa prog 171 [pA a] u0 K:= VC [] [] [] [] [1] [] [] func171 h
def DH.c{a i k l n o q t:Int}{b f r s:Bool}{v j m p:ByteArray}{w x y:Fl}{d e g:Lq}(h: aa prog 176 [.agg [pI a,pB b,pS ⟨#[120]⟩,.list 6 .sh d,.list 6 .sh e,pB f,.list 7 .sh g],.agg [pI i,pS j,pI k,pI l,pS m,pI n,pI o,pS p,pI q,pB r,pB s,pI t],.list 4 .nil []] u0 λA z=> ∃C B u,A=(.aB [.list 4 C B,pB u])/\ K (pB u) z):aa prog 172 [.agg [pI a,pB b,pS v,.list 6 w d,.list 6 x e,pB f,.list 7 y g],.agg [pI i,pS j,pI k,pI l,pS m,pI n,pI o,pS p,pI q,pB r,pB s,pI t]] u0 K:= VC [2,3] [] [] [] [] [] [] func172 h
def Mk.c{b:Fl}{a:Lq}(h: aR false 4 48 .nil [] a u0 λd e=> K (.list 4 d ([]++a)) e):aa prog 174 [.list 4 b a] u0 K:= VC [] [] [] [] [] [] [] func174 h
def Dy.c{r:Fn}{s t b u v:List PV}(h: cl u0 312 [.fn r s t] λS U=> ∃a2 a3 a4,az b 0 1=some [.fn a2 a3 a4]/\ ∃y z A,az b 0 1=some [.fn y z A]/\ bk prog (.fn y z A) (λY a V=> ∃e f g i j k l m n o p q,Y=[.agg [pI e,pS f,pI g,pI i,pS j,pI k,pI l,pS m,pI n,pB o,pB p,pI q]]/\ ∃B C D Z E a0 F G a1 H,az u 0 7=some [pI B,pB C,pS D,.list 6 Z E,.list 6 a0 F,pB G,.list 7 a1 H]/\ ∃J I,az v 0 1=some [.list 4 J I]/\ aa prog 176 [.agg [pI B,pB C,pS D,.list 6 .sh E,.list 6 .sh F,pB G,.list 7 .sh H],.agg [pI e,pS f,pI g,pI i,pS j,pI k,pI l,pS m,pI n,pB o,pB p,pI q],.list 4 J I] V λW d=> ∃M L N,W=(.aB [.list 4 M L,pB N])/\ ab N (∃O P Q,ay d S 0 1=some [.fn O P Q]/\ bP prog (.fn O P Q) [.agg [pI e,pS f,pI g,pI i,pS j,pI k,pI l,pS m,pI n,pB o,pB p,pI q],.list 4 M L] d λX x=> ∃R,X=(pB R)/\ ab (!R) (a (some .ret) x) (a none x)) (a none d)) (λT w=> PK T (K (.aB []) w) (K (.aB []) w) []) U):aa prog 175 [.fn r s t,.bt b 0,.bt u 0,.bt v 0] u0 K:= VC [5] [] [] [(11,[88])] [] [] [] func175 h
def JQ.c{e n p q s t v P:Int}{f a b g:Bool}{i o r u:ByteArray}{k m O x:Fl}{j l N w:Lq}(h: cg (α:=Unit) (λd=> ab (e != 1) (ab (e != 2) (K (.aB [.list 4 .nil [],pB false]) u0) (ab f (ab (!g) (K (.aB [.list 4 .nil [],pB false]) u0) (ab (!(a == b)) (K (.aB [.list 4 .nil [],pB false]) u0) (d () u0))) (ab (!(a == b)) (K (.aB [.list 4 .nil [],pB false]) u0) (d () u0)))) (ab f (ab (!g) (K (.aB [.list 4 .nil [],pB false]) u0) (ab (!(a == b)) (K (.aB [.list 4 .nil [],pB false]) u0) (d () u0))) (ab (!(a == b)) (K (.aB [.list 4 .nil [],pB false]) u0) (d () u0)))) (λW Q=> aa prog 224 [.agg [pI 1,pS i,pI 0,pS ⟨#[]⟩,pI 0,.list 3 .sh []],.agg [pI n,pS o,pI p],.list 4 x w] Q λS y=> ∃C B D,S=(.aB [.list 4 C B,pB D])/\ ab (!D) (K (.aB [.list 4 .nil [],pB false]) y) (aa prog 225 [.list 6 k j,.agg [pI q,pS r,pI s],.list 4 C B] y λT z=> ∃F E G,T=(.aB [.list 4 F E,pB G])/\ ab (!G) (K (.aB [.list 4 .nil [],pB false]) z) (aa prog 225 [.list 6 m l,.agg [pI t,pS u,pI v],.list 4 F E] z λU A=> ∃I H J,U=(.aB [.list 4 I H,pB J])/\ ab (!J) (K (.aB [.list 4 .nil [],pB false]) A) (aa prog 174 [.list 4 I H] A λV R=> ∃M L,V=(.list 4 M L)/\ K (.aB [.list 4 M L,pB true]) R))))):aa prog 176 [.agg [pI e,pB f,pS i,.list 6 k j,.list 6 m l,pB a,.list 7 O N],.agg [pI n,pS o,pI p,pI q,pS r,pI s,pI t,pS u,pI v,pB b,pB g,pI P],.list 4 x w] u0 K:= VC [3,4] [] [(3,⟨[],[]⟩)] [] [] [] [] func176 h
def Mn.c{l:Fl}{b:Lq}{e:ByteArray}(h: ak (α:=Int) (λm a d=> ab (decide (a<(b.length:Int))) (0<=a/\∃(f:List PV),(b)[toNat a]?=some f/\ ∃g i j k,az f 0 4=some [pS g,pI i,pS j,pI k]/\ ab (aG g e) (K (.aB [.agg [pI i,pS j,pI k],pB true]) d) (m (wrap .i64 (a+1)) d)) (K (.aB [.agg [pI 0,pS ⟨#[]⟩,pI 0],pB false]) d)) (0) u0):aa prog 177 [.list 4 l b,pS e] u0 K:= VC [4,7] [(2,⟨[(10,.one (.raw (.int .i64)))],[(4,3)]⟩)] [] [] [] [] [] func177 h
def CQ.c{a:Option Addr}{b:Int}(h: K (.fn (.func 226) [] [.bt [pA a] 0,.bt [pI b] 0]) u0):aa prog 178 [pA a,pI b] u0 K:= VC [] [] [] [] [2,3] [] [] func178 h
def uD.c{b:Fn}{d e f g:List PV}(h: cl u0 150 [.fn b d e] λP i=> ∃N,az f 0 1=some [pA N]/\ nP N λO Q=> ∃n,ay i O (Q+5) 1=some [pA n]/\ ∃o p q,az g 0 3=some [pI o,pS p,pI q]/\ aa prog 129 [pA n,.agg [pI o,pS p,pI q]] i λT j=> ∃r s,T=(.aB [pA r,pB s])/\ ab (!s) (K (.aB []) j) (aa prog 77 [pA r] j λU S=> ∃t u v,U=(.fn t u v)/\ bk prog (.fn t u v) (λW a k=> ∃w x y z A B C D E F G H,W=[.agg [pI w,pS x,pI y,pI z,pS A,pI B,pI C,pS D,pI E,pB F,pB G,pI H]]/\ ∃I J L,ay k P 0 1=some [.fn I J L]/\ bP prog (.fn I J L) [.agg [pI w,pS x,pI y,pI z,pS A,pI B,pI C,pS D,pI E,pB F,pB G,pI H]] k λV m=> ∃M,V=(pB M)/\ ab (!M) (a (some .ret) m) (a none m)) (λR l=> PK R (K (.aB []) l) (K (.aB []) l) []) S)):aa prog 179 [.fn b d e,.bt f 0,.bt g 0] u0 K:= VC [6] [] [] [(20,[129])] [] [] [] func179 h
def yJ.c{d:Option Addr}{e o:Int}{f k:Bool}{g:ByteArray}{E F G n:Fl}{i j l m:Lq}(h: cl u0 4 [pB false] λa b=> nP d λH J=> ∃u,ay b H J 1=some [pA u]/\ nP d λI L=> ∃U v,ay b I (L+1) 1=some [.list 1 U v]/\ 0<=o/\∃(s:List PV),(v)[toNat o]?=some s/\ ∃w,az s 0 1=some [pI w]/\ dh prog 116 [pA u,.agg [pI e,pB f,pS g,.list 6 .sh i,.list 6 .sh j,pB k,.list 7 .sh l],.list 4 n m,pI w] b λR N=> ∃x y z,R=(.fn x y z)/\ aa prog 115 [.agg [pI e,pB f,pS g,.list 6 .sh i,.list 6 .sh j,pB k,.list 7 .sh l],.fn x y z,.list 4 n m] (Mem.or b N) λS O=> ∃A B C,S=(.fn A B C)/\ bk prog (.fn A B C) (λT D P=> ∃V W X Y Z a0 a1 a2 a3 a4 a5 a6 a8 a7,T=[.agg [pI V,pS W,pI X,pI Y,pS Z,pI a0,pI a1,pS a2,pI a3,pB a4,pB a5,pI a6],.list 4 a8 a7]/\ stM a 0 [pB true] P λQ=> D (some .ret) Q) (λM p=> PK M (stM a 0 [pB false] p λt=> ∃q,ay t a 0 1=some [pB q]/\ K (pB q) t) (∃r,ay p a 0 1=some [pB r]/\ K (pB r) p) []) O):aa prog 180 [pA d,.agg [pI e,pB f,pS g,.list 6 E i,.list 6 F j,pB k,.list 7 G l],.list 4 n m,pI o] u0 K:= VC [5] [] [] [(26,[88,121])] [] [] [] func180 h
def Hj.c{b:Fl}{a:Lq}(h: aa prog 164 [.list 7 b a,pI 0,pI 0,.fn (.func 228) [] []] u0 λf e=> ∃d g,f=(.aB [pI d,pB g])/\ K (pI d) e):aa prog 181 [.list 7 b a] u0 K:= VC [] [] [] [] [] [] [] func181 h
def JS.c{a:Int}(h: ab (decide (a>=65)) (K (pB (decide (a<=90))) u0) (K (pB false) u0)):aa prog 185 [.raw (.int .u8 a)] u0 K:= VC [] [] [] [] [] [] [] func185 h
def Mo.c{b:ByteArray}(h: ab (decide ((((ByteArray.size b:Nat):Int):Int)<1)) (K (pB false) u0) (ab (decide ((((ByteArray.size b:Nat):Int):Int)>32)) (K (pB false) u0) ((0:Int)<=0/\∃A:UInt8,b[toNat 0]?=some A/\ aa prog 229 [.raw (.int .u8 ((UInt8.toNat A:Nat):Int))] u0 λm f=> ∃j,m=(pB j)/\ ab (!j) (K (pB false) f) (ak (α:=Int) (λd a g=> ab (decide (a<((ByteArray.size b:Nat):Int))) (0<=a/\∃y:UInt8,b[toNat a]?=some y/\ aa prog 229 [.raw (.int .u8 ((UInt8.toNat y:Nat):Int))] g λn i=> ∃k,n=(pB k)/\ ab (!k) (0<=a/\∃x:UInt8,b[toNat a]?=some x/\ aa prog 230 [.raw (.int .u8 ((UInt8.toNat x:Nat):Int))] i λo e=> ∃l,o=(pB l)/\ ab (!l) (0<=a/\∃w:UInt8,b[toNat a]?=some w/\ ab ((((UInt8.toNat w:Nat):Int):Int) != 45) (0<=a/\∃r:UInt8,b[toNat a]?=some r/\ ab ((((UInt8.toNat r:Nat):Int):Int) != 95) (K (pB false) e) (d (wrap .i64 (a+1)) e)) (d (wrap .i64 (a+1)) e)) (d (wrap .i64 (a+1)) e)) (d (wrap .i64 (a+1)) i)) (K (pB true) g)) (1) f)))):aa prog 186 [pS b] u0 K:= VC [] [(4,⟨[(3,.one (.raw (.int .i64)))],[]⟩)] [] [] [] [] [] func186 h
def gi.c{a d:Int}{b:ByteArray}(h: K (.agg [pI a,pS b,pI d,pA none]) u0):aa prog 188 [.agg [pI a,pS b,pI d]] u0 K:= VC [1,2] [] [] [] [] [] [] func188 h
def sw.c{o:Fl}{b:Lq}(h: ak (α:=Int) (λp a e=> ab (decide (a<(b.length:Int))) (0<=a/\∃(d:List PV),(b)[toNat a]?=some d/\ ∃g i j k l r m,az d 0 6=some [pI g,pS i,pI j,pS k,pI l,.list 3 r m]/\ aa prog 234 [.agg [pI g,pS i,pI j,pS k,pI l,.list 3 .sh m]] e λq f=> ∃n,q=(pB n)/\ ab (!n) (K (pB false) f) (p (wrap .i64 (a+1)) f)) (K (pB true) e)) (0) u0):aa prog 195 [.list 6 o b] u0 K:= VC [] [(2,⟨[(3,.one (.raw (.int .i64)))],[]⟩)] [] [] [] [] [] func195 h
def mI.c{b:Fl}{a:Lq}(h: aR false 3 32 .nil [] a u0 λd e=> K (.list 3 d ([]++a)) e):aa prog 196 [.list 3 b a] u0 K:= VC [] [] [] [] [] [] [] func196 h
def lz.c{b:Fl}{a:Lq}(h: eB 3 32 37 none 0 0 (.list 3 b a) u0 λd f e g=> K (pV d f e) g):aa prog 196 [.list 3 b a] u0 K:= VC [] [] [] [] [] [] [2,4] func196 h
def yQ.c{A j l:Fl}{b i k:Lq}{g:Int}{d:Option Addr}(h: ak (α:=Int×(Fl×Lq)×Int) (λC a e=> ab (decide (a.2.2<(b.length:Int))) (nP d λB D=> ∃o,ay e B (D+2) 1=some [pB o]/\ ab (!o) (0<=a.2.2/\∃(m:List PV),(b)[toNat a.2.2]?=some m/\ ∃p q r L s M t u N v,az m 0 7=some [pI p,pB q,pS r,.list 6 L s,.list 6 M t,pB u,.list 7 N v]/\ aa prog 235 [.agg [pI p,pB q,pS r,.list 6 .sh s,.list 6 .sh t,pB u,.list 7 .sh v],pI a.1,.list 3 a.2.1.1 a.2.1.2,.list 12 l k,pA d] e λH E=> ∃w f,H=(.list 3 w f)/\ aa prog 236 [pA d,pI a.1,pI (f.length:Int)] E λI F=>
 I=(.aB [])/\ 0<=a.2.2/\∃(n:List PV),(b)[toNat a.2.2]?=some n/\ ∃y x,az n 6 1=some [.list 7 y x]/\ aa prog 37 [.list 7 y x] F λJ G=> ∃z,J=(pI z)/\ C ((wrap .i64 (a.1+(wrap .i64 (1+z)))),(w,f),(wrap .i64 (a.2.2+1))) G) (K (.list 3 a.2.1.1 a.2.1.2) e)) (K (.list 3 a.2.1.1 a.2.1.2) e)) (g,(j,i),0) u0):aa prog 197 [.list 7 A b,pI g,.list 3 j i,.list 12 l k,pA d] u0 K:= VC [] [(2,⟨[(1,.one (.raw (.int .i64))),(2,.one (.list 3)),(11,.one (.raw (.int .i64)))],[]⟩)] [] [] [] [] [] func197 h
def uH.c{p q:Fl}{b d:Lq}(h: cg (α:=Unit) (λf=> ak (α:=Int) (λr a e=> ab (decide (a<(b.length:Int))) (ab (decide (a<(d.length:Int))) (0<=a/\∃(g:List PV),(b)[toNat a]?=some g/\ ∃l,az g 0 1=some [pI l]/\ 0<=a/\∃(i:List PV),(d)[toNat a]?=some i/\ ∃m,az i 0 1=some [pI m]/\ ab (l != m) (0<=a/\∃(j:List PV),(b)[toNat a]?=some j/\ ∃n,az j 0 1=some [pI n]/\ 0<=a/\∃(k:List PV),(d)[toNat a]?=some k/\ ∃o,az k 0 1=some [pI o]/\ K (pB (decide (n<o))) e) (r (wrap .i64 (a+1)) e)) (f () e)) (f () e)) (0) u0) (λt s=> K (pB (decide ((b.length:Int)<(d.length:Int)))) s)):aa prog 198 [.list 1 p b,.list 1 q d] u0 K:= VC [] [(2,⟨[(5,.one (.raw (.int .i64)))],[]⟩)] [(6,⟨[],[]⟩)] [] [] [] [] func198 h
def uT.c{E F:Fl}{b d:Lq}(h: ab ((b.length:Int) != (d.length:Int)) (K (pB false) u0) (ak (α:=Int) (λG a e=> ab (decide (a<(b.length:Int))) (0<=a/\∃(f:List PV),(b)[toNat a]?=some f/\ ∃p,az f 0 1=some [pI p]/\ 0<=a/\∃(g:List PV),(d)[toNat a]?=some g/\ ∃q,az g 0 1=some [pI q]/\ ab (p != q) (K (pB false) e) (0<=a/\∃(i:List PV),(b)[toNat a]?=some i/\ ∃r,az i 1 1=some [pS r]/\ 0<=a/\∃(j:List PV),(d)[toNat a]?=some j/\ ∃s,az j 1 1=some [pS s]/\ ab (!aG r s) (K (pB false) e) (0<=a/\∃(k:List PV),(b)[toNat a]?=some k/\ ∃t u v,az k 2 3=some [pI t,pS u,pI v]/\ 0<=a/\∃(l:List PV),(d)[toNat a]?=some l/\ ∃w x y,az l 2 3=some [pI w,pS x,pI y]/\ ab (!((t == w)&&(aG u x&&((v == y)&&true)))) (K (pB false) e) (0<=a/\∃(m:List PV),(b)[toNat a]?=some m/\ ∃A z,az m 5 1=some [.list 3 A z]/\ 0<=a/\∃(n:List PV),(d)[toNat a]?=some n/\ ∃C B,az n 5 1=some [.list 3 C B]/\ aa prog 241 [.list 3 A z,.list 3 C B] e λH o=> ∃D,H=(pB D)/\ ab (!D) (K (pB false) o) (G (wrap .i64 (a+1)) o))))) (K (pB true) e)) (0) u0)):aa prog 205 [.list 6 E b,.list 6 F d] u0 K:= VC [] [(4,⟨[(5,.one (.raw (.int .i64)))],[]⟩)] [] [] [] [] [] func205 h
def zT.c{b f g:Int}{i o:Bool}{j:ByteArray}{l n q:Fl}{k m p:Lq}{a:Nat}(h: stM a 0 [pI (wrap .i64 (b+1))] u0 λd=> ∃e,ay d a 0 1=some [pI e]/\ K (pB (decide (e<=16))) d):aa prog 206 [pI b,pI f,.agg [pI g,pB i,pS j,.list 6 l k,.list 6 n m,pB o,.list 7 q p],pP a 0] u0 K:= VC [6] [] [] [] [] [] [] func206 h
def zS.c{d e f:Int}{g l:Bool}{i:ByteArray}{t u v:Fl}{j k m:Lq}{a n:Nat}(h: aa prog 208 [.agg [pI f,pB g,pS i,.list 6 .sh j,.list 6 .sh k,pB l,.list 7 .sh m],pI e] u0 λx w=> ∃p,x=(pI p)/\ stM a 0 [pI p] w λb=> ∃q,ay b a 0 1=some [pI q]/\ ab (q != 0) (stM n 0 [pI d] b λo=> ∃r,ay o a 0 1=some [pI r]/\ K (pB (r == 0)) o) (∃s,ay b a 0 1=some [pI s]/\ K (pB (s == 0)) b)):aa prog 207 [pI d,pI e,.agg [pI f,pB g,pS i,.list 6 t j,.list 6 u k,pB l,.list 7 v m],pP a 0,pP n 0] u0 K:= VC [7] [] [] [] [] [] [] func207 h
def Hh.c{a n:Int}{j m:Bool}{f:ByteArray}{k l u:Fl}{b e g:Lq}(h: cg (α:=Unit) (λi=> ab (a == 3) (ab j (K (pI 9) u0) (ab (!aG f ⟨#[]⟩) (K (pI 9) u0) (ab (decide ((b.length:Int)>0)) (K (pI 9) u0) (ab (decide ((e.length:Int)>0)) (K (pI 9) u0) (ab m (K (pI 9) u0) (ab ((g.length:Int) == 0) (K (pI 9) u0) (ab (decide (n>=3)) (K (pI 8) u0) (K (pI 0) u0)))))))) (ab (a == 1) (ab (a == 1) (i () u0) (K (pI 9) u0)) (ab (a == 2) (i () u0) (K (pI 9) u0)))) (λy o=> ab (decide ((g.length:Int)>0)) (K (pI 9) o) (aa prog 186 [pS f] o λv d=> ∃r,v=(pB r)/\ ab (!r) (K (pI 9) d) (ab ((b.length:Int) == 0) (K (pI 9) d) (ab (decide ((b.length:Int)>4)) (K (pI 7) d) (ab (decide ((e.length:Int)>4)) (K (pI 7) d) (aa prog 242 [.list 6 k b] d λw p=> ∃s,w=(pB s)/\ ab (!s) (K (pI 9) p) (aa prog 242 [.list 6 l e] p λx q=> ∃t,x=(pB t)/\ ab (!t) (K (pI 9) q) (K (pI 0) q))))))))):aa prog 208 [.agg [pI a,pB j,pS f,.list 6 k b,.list 6 l e,pB m,.list 7 u g],pI n] u0 K:= VC [2] [] [(11,⟨[],[]⟩)] [] [] [] [] func208 h
def JV.c{i j l o q s u d f:ByteArray}{k m n p r t v a e g:Int}(h: aa prog 186 [pS i] u0 λH w=> ∃E,H=(pB E)/\ ab (!E) (K (pB false) w) (aa prog 243 [.agg [pS j,pI k,pS l,pI m]] w λI x=> ∃z,I=(pB z)/\ ab (!z) (K (pB false) x) (aa prog 244 [.agg [pI n,pS o,pI p,pS q,pI r,pS s,pI t,pS u,pI v]] x λJ b=> ∃A,J=(pB A)/\ ab (!A) (K (pB false) b) (ab (decide (a<1)) (K (pB false) b) (ab (decide (a>10)) (K (pB false) b) (aa prog 245 [pI a] b λL y=> ∃B,L=(pB B)/\ ab B (aa prog 243 [.agg [pS d,pI e,pS f,pI g]] y λM F=> ∃C,M=(pB C)/\ K (pB C) F) (aa prog 246 [.agg [pS d,pI e,pS f,pI g]] y λN G=> ∃D,N=(pB D)/\ K (pB D) G))))))):aa prog 209 [.agg [pS i,pS j,pI k,pS l,pI m,pI n,pS o,pI p,pS q,pI r,pS s,pI t,pS u,pI v,pI a,pS d,pI e,pS f,pI g]] u0 K:= VC [1] [] [] [] [] [] [] func209 h
def mC.c{a:Option Addr}{f:ByteArray}(h: ab (isNone a) (K (pB false) u0) (aa prog 247 [pA a,pS f] u0 λW g=> ∃e k,W=(.aB [pI e,pB k])/\ ab k (K (pB false) g) (aa prog 248 [pA a] g λX i=>
 X=(.aB [])/\ nP a λw G=> ∃l n m,ay i w G 1=some [pV l n m]/\ eB 1 16 292 l n m (.list 1 .nr [[pS f]]) i λQ S R T=> nP a λx H=> stM x H [pV Q S R] T λj=> nP a λy I=> ∃Y o Z,ay j y I 1=some [pV Y o Z]/\ ak (α:=Int) (λF b d=> ab (decide (b>e)) (nP a λz J=> ∃p q a0,ay d z J 1=some [pV p q a0]/\ nP a λA L=> ∃r s a1,ay d A L 1=some [pV r s a1]/\ bh r λB M=> 0<=(wrap .i64 (b-1))/\(wrap .i64 (b-1))<((s:Nat):Int)/\ ∃t,ay d B (M+toNat (wrap .i64 (b-1))*1) 1=some [pS t]/\ bh p λC N=> 0<=b/\b<((q:Nat):Int)/\ stM C (N+toNat b*1) [pS t] d λU=> F (wrap .i64 (b-1)) U) (nP a λD O=> ∃u v a2,ay d D O 1=some [pV u v a2]/\ bh u λE P=> 0<=e/\e<((v:Nat):Int)/\ stM E (P+toNat e*1) [pS f] d λV=> K (pB true) V)) (wrap .i64 (((o:Nat):Int)-1)) j))):aa prog 210 [pA a,pS f] u0 K:= VC [] [(9,⟨[(7,.one (.raw (.int .i64)))],[]⟩)] [] [] [] [] [23,32,43,48,57] func210 h
def sk.c{a:Option Addr}(h: nP a λe g=> ∃b,ay u0 e g 1=some [pA b]/\ aa prog 249 [pA b] u0 λk i=> ∃d,k=(pA d)/\ cl i 294 [pA d,.list 1 .nil []] λf j=> K (pP f 0) j):aa prog 211 [pA a] u0 K:= VC [] [] [] [] [] [] [] func211 h
def wI.c{a:Option Addr}{p:Int}{e q:Bool}{b:ByteArray}{g j s:Fl}{f i r:Lq}(h: cg (α:=Unit) (λd=> ab e (aa prog 250 [pA a,pS b] u0 λw u=>
 w=(.aB [])/\ d () u) (d () u0)) (λA t=> aa prog 213 [pA a,pS b] t λx k=> ∃m,x=(pB m)/\ ab m (aa prog 251 [pA a,.list 6 g f] k λy l=> ∃n,y=(pB n)/\ ab n (aa prog 251 [pA a,.list 6 j i] l λz v=> ∃o,z=(pB o)/\ K (pB o) v) (K (pB false) l)) (K (pB false) k))):aa prog 212 [pA a,.agg [pI p,pB e,pS b,.list 6 g f,.list 6 j i,pB q,.list 7 s r]] u0 K:= VC [3] [] [(3,⟨[],[]⟩)] [] [] [] [] func212 h
def wK.c{a:Option Addr}{b:ByteArray}(h: nP a λf g=> ∃d,ay u0 f g 1=some [pA d]/\ aa prog 252 [pA d,pS b] u0 λj i=> ∃k e,j=(.aB [pI k,pB e])/\ K (pB e) i):aa prog 213 [pA a,pS b] u0 K:= VC [] [] [] [] [] [] [] func213 h
def Ab.c{o:Fl}{b:Lq}(h: ak (α:=(Option Addr×Nat×Nat)×Int) (λf a d=> ab (decide (a.2<(b.length:Int))) (0<=a.2/\∃(g:List PV),(b)[toNat a.2]?=some g/\ ∃i e j k l n m,az g 0 6=some [pI i,pS e,pI j,pS k,pI l,.list 3 n m]/\ ab (aG e ⟨#[]⟩) (eB 3 32 37 none 0 0 (.list 3 n m) d λp r q v=> eB 6 80 102 a.1.1 a.1.2.1 a.1.2.2 (.list 6 .nr [[pI i,pS e,pI j,pS k,pI l,pV p r q]]) v λs u t w=> f ((s,u,t),(wrap .i64 (a.2+1))) w) (f ((a.1.1,a.1.2.1,a.1.2.2),(wrap .i64 (a.2+1))) d)) (K (pV a.1.1 a.1.2.1 a.1.2.2) d)) ((none,0,0),0) u0):aa prog 214 [.list 6 o b] u0 K:= VC [5] [(3,⟨[(3,.one (.raw .slice)),(8,.one (.raw (.int .i64)))],[]⟩)] [] [] [] [] [2,3,5,17,20,22,24] func214 h
def dZ.c{a:Option Addr}(h: K (.fn (.func 253) [] [.bt [pA a] 0]) u0):aa prog 216 [pA a] u0 K:= VC [] [] [] [] [1] [] [] func216 h
def ia.c{a:Int}(h: K (.agg [pI a,pI 0,pB false,pS ⟨#[]⟩,.list 6 .nil [],.list 6 .nil [],pB false,.list 7 .nil [],pI 0,pA none]) u0):aa prog 218 [pI a] u0 K:= VC [2] [] [] [] [] [] [] func218 h
def eO.c{a:Option Addr}(h: K (.fn (.func 255) [] [.bt [pA a] 0]) u0):aa prog 221 [pA a] u0 K:= VC [] [] [] [] [1] [] [] func221 h
def Ml.c{b n p d f:Int}{g o e:ByteArray}{A i:Fl}{k a:Lq}(h: ab (b == 8) (ak (α:=Int) (λC j l=> ab (decide (j<(k.length:Int))) (0<=j/\∃(q:List PV),(k)[toNat j]?=some q/\ ∃r s t,az q 0 3=some [pI r,pS s,pI t]/\ ab ((r == d)&&(aG s e&&((t == f)&&true))) (K (.aB [.list 4 i a,pB true]) l) (C (wrap .i64 (j+1)) l)) (K (.aB [.list 4 .nil [],pB false]) l)) (0) u0) (ab (decide (b<1)) (K (.aB [.list 4 .nil [],pB false]) u0) (ab (decide (b>7)) (K (.aB [.list 4 .nil [],pB false]) u0) (ab (aG g ⟨#[]⟩) (aa prog 257 [pI b,.agg [pI d,pS e,pI f],.agg [pI n,pS o,pI p]] u0 λG D=> ∃u,G=(pB u)/\ K (.aB [.list 4 i a,pB u]) D) (aa prog 177 [.list 4 i a,pS g] u0 λH m=> ∃v w x y,H=(.aB [.agg [pI v,pS w,pI x],pB y])/\ ab y (aa prog 257 [pI b,.agg [pI d,pS e,pI f],.agg [pI v,pS w,pI x]] m λI E=> ∃z,I=(pB z)/\ K (.aB [.list 4 i a,pB z]) E) (ab (b != 1) (K (.aB [.list 4 .nil [],pB false]) m) ((0:Int)<=(0:Int)/\0<=(a.length:Int)/\(a.length:Int)<=(a.length:Int)/\(a.length:Int)=(a.length:Int)/\ aR false 4 48 .nr (drop (toNat (0:Int)) (take (toNat (a.length:Int)) a)) [[pS g,pI d,pS e,pI f]] m λB F=> K (.aB [.list 4 B ((drop (toNat (0:Int)) (take (toNat (a.length:Int)) a))++[[pS g,pI d,pS e,pI f]]),pB true]) F))))))):aa prog 224 [.agg [pI b,pS g,pI n,pS o,pI p,.list 3 A k],.agg [pI d,pS e,pI f],.list 4 i a] u0 K:= VC [3,4,9,10] [(3,⟨[(18,.one (.raw (.int .i64)))],[]⟩)] [] [] [] [] [] func224 h
def Mm.c{v i:Fl}{b g:Lq}{d f:Int}{e:ByteArray}(h: ak (α:=(Fl×Lq)×Int) (λw a k=> ab (decide (a.2<(b.length:Int))) (0<=a.2/\∃(j:List PV),(b)[toNat a.2]?=some j/\ ∃m n o p q y r,az j 0 6=some [pI m,pS n,pI o,pS p,pI q,.list 3 y r]/\ aa prog 224 [.agg [pI m,pS n,pI o,pS p,pI q,.list 3 .sh r],.agg [pI d,pS e,pI f],.list 4 a.1.1 a.1.2] k λx l=> ∃t s u,x=(.aB [.list 4 t s,pB u])/\ ab (!u) (K (.aB [.list 4 .nil [],pB false]) l) (w ((t,s),(wrap .i64 (a.2+1))) l)) (K (.aB [.list 4 a.1.1 a.1.2,pB true]) k)) ((i,g),0) u0):aa prog 225 [.list 6 v b,.agg [pI d,pS e,pI f],.list 4 i g] u0 K:= VC [4,9] [(2,⟨[(2,.one (.list 4)),(14,.one (.raw (.int .i64)))],[]⟩)] [] [] [] [] [] func225 h
def yR.c{i:Fn}{j k n o:List PV}(h: cl u0 150 [.fn i j k] λb6 a=> cg (α:=Option Addr×Bool) (λf=> ∃b4,az n 0 1=some [pA b4]/\ nP b4 λb5 b8=> ∃d,ay a b5 (b8+1) 1=some [pA d]/\ ∃e,az o 0 1=some [pI e]/\ (aa prog 182 [pA d,pI e] a λc8 c1=> ∃t v x C z G D H N J O Q S,c8=(.aB [.agg [pI t,pB v,pS x,.list 6 C z,.list 6 G D,pB H,.list 7 N J,pI O,pA Q],pB S])/\ cl c1 196 [pI 0,pB false,pS ⟨#[]⟩,.list 6 .nil [],.list 6 .nil [],pB false,.list 7 .nil [],pI 0,pA none] λl c2=> stM l 0 [pI t,pB v,pS x,.list 6 C z,.list 6 G D,pB H,.list 7 N J,pI O,pA Q] c2 λc3=> f ((some ⟨l,0,none⟩),S) c3)/\ (cl a 196 [pI 0,pB false,pS ⟨#[]⟩,.list 6 .nil [],.list 6 .nil [],pB false,.list 7 .nil [],pI 0,pA none] λm c4=> aa prog 182 [pA d,pI e] c4 λc9 c5=> ∃u w y B A F E I M L P R T,c9=(.aB [.agg [pI u,pB w,pS y,.list 6 B A,.list 6 F E,pB I,.list 7 M L,pI P,pA R],pB T])/\ stM m 0 [pI u,pB w,pS y,.list 6 B A,.list 6 F E,pB I,.list 7 M L,pI P,pA R] c5 λc6=> f ((some ⟨m,0,none⟩),T) c6)) (λp b=> ab (!p.2) (K (.aB []) b) (aM (pA p.1) λb7 b9=> ∃U,ay b b7 (b9+8) 1=some [pA U]/\ aa prog 227 [pA U] b λd0 c7=> ∃V W X,d0=(.fn V W X)/\ bk prog (.fn V W X) (λd2 g s=> ∃Y Z a0 a1 a2 a3 a4 a5 a6 a7 a8 a9,d2=[.agg [pI Y,pS Z,pI a0,pI a1,pS a2,pI a3,pI a4,pS a5,pI a6,pB a7,pB a8,pI a9]]/\ ∃b0 b1 b2,ay s b6 0 1=some [.fn b0 b1 b2]/\ bP prog (.fn b0 b1 b2) [.agg [pI Y,pS Z,pI a0,pI a1,pS a2,pI a3,pI a4,pS a5,pI a6,pB a7,pB a8,pI a9]] s λd1 r=> ∃b3,d1=(pB b3)/\ ab (!b3) (g (some .ret) r) (g none r)) (λc0 q=> PK c0 (K (.aB []) q) (K (.aB []) q) []) c7))):aa prog 226 [.fn i j k,.bt n 0,.bt o 0] u0 K:= VC [6] [] [(2,⟨[(4,.one (.raw .ptr)),(5,.one (.raw .bool))],[]⟩)] [(21,[305])] [] [] [] func226 h
def kL.c{a:Option Addr}(h: K (.fn (.func 258) [] [.bt [pA a] 0]) u0):aa prog 227 [pA a] u0 K:= VC [] [] [] [] [1] [] [] func227 h
def CG.c{a b d:Int}{e l:Bool}{f:ByteArray}{i k n:Fl}{g j m:Lq}(h: K (pB true) u0):aa prog 228 [pI a,pI b,.agg [pI d,pB e,pS f,.list 6 i g,.list 6 k j,pB l,.list 7 n m]] u0 K:= VC [5] [] [] [] [] [] [] func228 h
def JR.c{a:Int}(h: ab (decide (a>=97)) (K (pB (decide (a<=122))) u0) (K (pB false) u0)):aa prog 229 [.raw (.int .u8 a)] u0 K:= VC [] [] [] [] [] [] [] func229 h
def JT.c{a:Int}(h: ab (decide (a>=48)) (K (pB (decide (a<=57))) u0) (K (pB false) u0)):aa prog 230 [.raw (.int .u8 a)] u0 K:= VC [] [] [] [] [] [] [] func230 h
def jo.c{a:Int}(h: K (.agg [pI a,pI 0,pS ⟨#[]⟩,pI 0,pI 0,pS ⟨#[]⟩,pI 0,pI 0,pS ⟨#[]⟩,pI 0,pB false,pB false,pI 0]) u0):aa prog 232 [pI a] u0 K:= VC [2] [] [] [] [] [] [] func232 h
def uJ.c{b f i:Int}{e g:ByteArray}{r:Fl}{a:Lq}(h: ab (b == 8) (ab (!aG e ⟨#[]⟩) (K (pB false) u0) (ab (!((f == 0)&&(aG g ⟨#[]⟩&&((i == 0)&&true)))) (K (pB false) u0) (ab (decide ((a.length:Int)<1)) (K (pB false) u0) (ab (decide ((a.length:Int)>8)) (K (pB false) u0) (ak (α:=Int) (λs d k=> ab (decide (d<(a.length:Int))) (0<=d/\∃(j:List PV),(a)[toNat d]?=some j/\ ∃m n o,az j 0 3=some [pI m,pS n,pI o]/\ aa prog 145 [.agg [pI m,pS n,pI o]] k λu l=> ∃p,u=(pB p)/\ ab (!p) (K (pB false) l) (s (wrap .i64 (d+1)) l)) (K (pB true) k)) (0) u0))))) (ab (decide (b>=1)) (ab (decide (b<=7)) (ab ((a.length:Int) == 0) (aa prog 140 [.agg [pS e,pI f,pS g,pI i]] u0 λv t=> ∃q,v=(pB q)/\ K (pB q) t) (K (pB false) u0)) (K (pB false) u0)) (K (pB false) u0))):aa prog 234 [.agg [pI b,pS e,pI f,pS g,pI i,.list 3 r a]] u0 K:= VC [1] [(5,⟨[(3,.one (.raw (.int .i64)))],[]⟩)] [] [] [] [] [] func234 h
def mu.c{p Z:Int}{T X:Bool}{U:ByteArray}{d7 d8 Y d9 a0:Fl}{V W w j q:Lq}{x:Option Addr}(h: ab (p == 3) (ak (α:=(Fl×Lq)×Int) (λf6 i b1=> ab (decide (i.2<(j.length:Int))) (0<=i.2/\∃(a7:List PV),(j)[toNat i.2]?=some a7/\ ∃j0 N,az a7 1 1=some [.list 4 j0 N]/\ aR false 3 56 i.1.1 i.1.2 [[.list 1 .sh [],.list 4 .sh N,pI i.2]] b1 λf4 f8=> f6 ((f4,(i.1.2++[[.list 1 .sh [],.list 4 .sh N,pI i.2]])),(wrap .i64 (i.2+1))) f8) (aa prog 197 [.list 7 Y w,pI (wrap .i64 (Z+1)),.list 3 i.1.1 i.1.2,.list 12 a0 q,pA x] b1 λi4 g6=> ∃c0 b9,i4=(.list 3 c0 b9)/\ ak (α:=(Fl×Lq)×Int) (λa4 g b4=> ab (decide (g.2<(j.length:Int))) (aa prog 260 [.list 3 c0 b9,pI g.2] b4 λi5 b6=> ∃c1,i5=(pB c1)/\ ab (!c1) (0<=g.2/\∃(a8:List PV),(j)[toNat g.2]?=some a8/\ ∃j1 O j2 P Q,az a8 0 3=some [.list 1 j1 O,.list 4 j2 P,pI Q]/\ aR false 3 56 g.1.1 g.1.2 [[.list 1 .sh O,.list 4 .sh P,pI Q]] b6 λf5 i2=> a4 ((f5,(g.1.2++[[.list 1 .sh O,.list 4 .sh P,pI Q]])),(wrap .i64 (g.2+1))) i2) (a4 ((g.1.1,g.1.2),(wrap .i64 (g.2+1))) b6)) (K (.list 3 g.1.1 g.1.2) b4)) ((.nil,[]),0) g6)) ((.nil,[]),0) u0) (ak (α:=(Fl×Lq)×Int) (λy f b7=> ab (decide (f.2<(j.length:Int))) (cg (α:=(Fl×Lq)×Bool) (λR=> ak (α:=(Fl×Lq)×Bool×Int) (λz a u=> cg (α:=Unit) (λS=> ab (decide (a.2.2<(q.length:Int))) (ab (p == 1) (S () u) (ab a.2.1 (S () u) (R ((a.1.1,a.1.2),a.2.1) u))) (R ((a.1.1,a.1.2),a.2.1) u)) (λk3 i3=> 0<=a.2.2/\∃(a9:List PV),(q)[toNat a.2.2]?=some a9/\ ∃c2 c3 c4 c5 c6 c7 c8 c9 d0 d1 d2 d3,az a9 0 12=some [pI c2,pS c3,pI c4,pI c5,pS c6,pI c7,pI c8,pS c9,pI d0,pB d1,pB d2,pI d3]/\ 0<=f.2/\∃(b0:List PV),(j)[toNat f.2]?=some b0/\ ∃d5 d4,az b0 1 1=some [.list 4 d5 d4]/\ aa prog 261 [.agg [pI p,pB T,pS U,.list 6 .sh V,.list 6 .sh W,pB X,.list 7 .sh w],.agg [pI c2,pS c3,pI c4,pI c5,pS c6,pI c7,pI c8,pS c9,pI d0,pB d1,pB d2,pI d3],.list 4 d5 d4] i3 λi6 n=> ∃j3 e d6,i6=(.aB [.list 4 j3 e,pB d6])/\ ab (!d6) (z ((a.1.1,a.1.2),a.2.1,(wrap .i64 (a.2.2+1))) n) (ab (p == 1) (cg (α:=(Fl×Lq)) (λk=> 0<=f.2/\∃(a5:List PV),(j)[toNat f.2]?=some a5/\ ∃i7 b,az a5 0 1=some [.list 1 i7 b]/\ 0<=a.2.2/\∃(t:List PV),(q)[toNat a.2.2]?=some t/\ 0<=f.2/\∃(l:List PV),(j)[toNat f.2]?=some l/\ (∃d,az t 11 1=some [pI d]/\ (∃s,az l 2 1=some [pI s]/\ (aR false 1 8 .nil [] b n λe1 f9=> ((aR false 1 8 e1 ([]++b) [[pI d]] f9 λj4 g0=> ((aR false 3 56 a.1.1 a.1.2 [[.list 1 .sh (([]++b)++[[pI d]]),.list 4 .sh e,pI s]] g0 λe4 g1=> k (e4,(a.1.2++[[.list 1 .sh (([]++b)++[[pI d]]),.list 4 .sh e,pI s]])) g1)/\ True)/\ True)/\ True)/\ True)/\ ((aR false 1 8 .nil [] b n λe2 g2=> (aR false 1 8 e2 ([]++b) [[pI d]] g2 λj5 g3=> ((aR false 3 56 a.1.1 a.1.2 [[.list 1 .sh (([]++b)++[[pI d]]),.list 4 .sh e,pI s]] g3 λe5 g4=> k (e5,(a.1.2++[[.list 1 .sh (([]++b)++[[pI d]]),.list 4 .sh e,pI s]])) g4)/\ True)/\ True)/\ True)/\ True)/\ True)/\ (aR false 1 8 .nil [] b n λa1 b2=> (∃C,az l 2 1=some [pI C]/\ ((aR false 1 8 a1 ([]++b) [[pI d]] b2 λj6 g5=> ((aR false 3 56 a.1.1 a.1.2 [[.list 1 .sh (([]++b)++[[pI d]]),.list 4 .sh e,pI C]] g5 λe6 g7=> k (e6,(a.1.2++[[.list 1 .sh (([]++b)++[[pI d]]),.list 4 .sh e,pI C]])) g7)/\ True)/\ True)/\ True)/\ True)/\ ((aR false 1 8 a1 ([]++b) [[pI d]] b2 λj7 g8=> ∃D,az l 2 1=some [pI D]/\ ((aR false 3 56 a.1.1 a.1.2 [[.list 1 .sh (([]++b)++[[pI d]]),.list 4 .sh e,pI D]] g8 λe7 g9=> k (e7,(a.1.2++[[.list 1 .sh (([]++b)++[[pI d]]),.list 4 .sh e,pI D]])) g9)/\ True)/\ True)/\ True)/\ True)/\ ((aR false 1 8 .nil [] b n λa2 b3=> (∃E,az l 2 1=some [pI E]/\ (aR false 1 8 a2 ([]++b) [[pI d]] b3 λj8 h0=> ((aR false 3 56 a.1.1 a.1.2 [[.list 1 .sh (([]++b)++[[pI d]]),.list 4 .sh e,pI E]] h0 λe8 h1=> k (e8,(a.1.2++[[.list 1 .sh (([]++b)++[[pI d]]),.list 4 .sh e,pI E]])) h1)/\ True)/\ True)/\ True)/\ (aR false 1 8 a2 ([]++b) [[pI d]] b3 λj9 h2=> ∃F,az l 2 1=some [pI F]/\ ((aR false 3 56 a.1.1 a.1.2 [[.list 1 .sh (([]++b)++[[pI d]]),.list 4 .sh e,pI F]] h2 λe9 h3=> k (e9,(a.1.2++[[.list 1 .sh (([]++b)++[[pI d]]),.list 4 .sh e,pI F]])) h3)/\ True)/\ True)/\ True)/\ True)/\ True)/\ (∃G,az l 2 1=some [pI G]/\ (aR false 1 8 .nil [] b n λe3 h4=> ∃v,az t 11 1=some [pI v]/\ ((aR false 1 8 e3 ([]++b) [[pI v]] h4 λk0 h5=> ((aR false 3 56 a.1.1 a.1.2 [[.list 1 .sh (([]++b)++[[pI v]]),.list 4 .sh e,pI G]] h5 λf0 h6=> k (f0,(a.1.2++[[.list 1 .sh (([]++b)++[[pI v]]),.list 4 .sh e,pI G]])) h6)/\ True)/\ True)/\ True)/\ True)/\ True)/\ (aR false 1 8 .nil [] b n λa3 b5=> ∃o,az t 11 1=some [pI o]/\ (∃H,az l 2 1=some [pI H]/\ ((aR false 1 8 a3 ([]++b) [[pI o]] b5 λk1 h7=> ((aR false 3 56 a.1.1 a.1.2 [[.list 1 .sh (([]++b)++[[pI o]]),.list 4 .sh e,pI H]] h7 λf1 h8=> k (f1,(a.1.2++[[.list 1 .sh (([]++b)++[[pI o]]),.list 4 .sh e,pI H]])) h8)/\ True)/\ True)/\ True)/\ True)/\ ((aR false 1 8 a3 ([]++b) [[pI o]] b5 λk2 h9=> ∃I,az l 2 1=some [pI I]/\ ((aR false 3 56 a.1.1 a.1.2 [[.list 1 .sh (([]++b)++[[pI o]]),.list 4 .sh e,pI I]] h9 λf2 i0=> k (f2,(a.1.2++[[.list 1 .sh (([]++b)++[[pI o]]),.list 4 .sh e,pI I]])) i0)/\ True)/\ True)/\ True)/\ True)/\ True) (λr A=> nP x λe0 f7=> ∃b8,ay A e0 (f7+1) 1=some [pI b8]/\ ab (decide (((List.length r.2:Nat):Int)>b8)) (K (.list 3 r.1 r.2) A) (z ((r.1,r.2),false,(wrap .i64 (a.2.2+1))) A))) (z ((a.1.1,a.1.2),false,(wrap .i64 (a.2.2+1))) n)))) ((f.1.1,f.1.2),true,0) b7) (λm B=> ab (p == 2) (ab m.2 (0<=f.2/\∃(a6:List PV),(j)[toNat f.2]?=some a6/\ ∃i8 J i9 L M,az a6 0 3=some [.list 1 i8 J,.list 4 i9 L,pI M]/\ aR false 3 56 m.1.1 m.1.2 [[.list 1 .sh J,.list 4 .sh L,pI M]] B λf3 i1=> y ((f3,(m.1.2++[[.list 1 .sh J,.list 4 .sh L,pI M]])),(wrap .i64 (f.2+1))) i1) (y ((m.1.1,m.1.2),(wrap .i64 (f.2+1))) B)) (y ((m.1.1,m.1.2),(wrap .i64 (f.2+1))) B))) (K (.list 3 f.1.1 f.1.2) b7)) ((.nil,[]),0) u0)):aa prog 235 [.agg [pI p,pB T,pS U,.list 6 d7 V,.list 6 d8 W,pB X,.list 7 Y w],pI Z,.list 3 d9 j,.list 12 a0 q,pA x] u0 K:= VC [5,1000026] [(5,⟨[(12,.one (.list 3)),(13,.one (.raw (.int .i64)))],[]⟩),(10,⟨[(11,.one (.list 3)),(14,.one (.raw (.int .i64)))],[]⟩),(16,⟨[(11,.one (.list 3)),(15,.one (.raw (.int .i64)))],[]⟩),(20,⟨[(11,.one (.list 3)),(16,.one (.raw .bool)),(17,.one (.raw (.int .i64)))],[]⟩)] [(22,⟨[],[]⟩),(27,⟨[(11,.one (.list 3))],[]⟩),(29,⟨[(11,.one (.list 3)),(16,.one (.raw .bool))],[]⟩)] [] [] [] [] func235 h
def nz.c{a:Option Addr}{b f:Int}(h: ak (α:=Unit) (λy T d=> nP a λp z=> ∃R o S,ay d p z 1=some [pV R o S]/\ ab (decide ((((o:Nat):Int):Int)<=b)) (nP a λq A=> ∃g j i,ay d q A 1=some [pV g j i]/\ eB 1 8 3 g j i (.list 1 .nr [[pI 0]]) d λI L J M=> nP a λr B=> stM r B [pV I L J] M λN=> y () N) (nP a λs C=> ∃k l Q,ay d s C 1=some [pV k l Q]/\ bh k λt D=> 0<=b/\b<((l:Nat):Int)/\ stM t (D+toNat b*1) [pI f] d λe=> nP a λu E=> ∃m,ay e u (E+2) 1=some [pB m]/\ ab m (nP a λv F=> stM v (F+2) [pB true] e λO=> K (.aB []) O) (nP a λw G=> ∃n,ay e w (G+1) 1=some [pI n]/\ nP a λx H=> stM x (H+2) [pB (decide (f>n))] e λP=> K (.aB []) P))) () u0):aa prog 236 [pA a,pI b,pI f] u0 K:= VC [] [(0,⟨[],[]⟩)] [] [] [] [] [8,9,16,17,19,21,24,25] func236 h
def wV.c{o p:Fl}{b d:Lq}(h: ab ((b.length:Int) != (d.length:Int)) (K (pB false) u0) (ak (α:=Int) (λq a e=> ab (decide (a<(b.length:Int))) (0<=a/\∃(f:List PV),(b)[toNat a]?=some f/\ ∃i j k,az f 0 3=some [pI i,pS j,pI k]/\ 0<=a/\∃(g:List PV),(d)[toNat a]?=some g/\ ∃l m n,az g 0 3=some [pI l,pS m,pI n]/\ ab (!((i == l)&&(aG j m&&((k == n)&&true)))) (K (pB false) e) (q (wrap .i64 (a+1)) e)) (K (pB true) e)) (0) u0)):aa prog 241 [.list 3 o b,.list 3 p d] u0 K:= VC [] [(4,⟨[(5,.one (.raw (.int .i64)))],[]⟩)] [] [] [] [] [] func241 h
def Dz.c{o:Fl}{b:Lq}(h: ak (α:=Int) (λp a e=> ab (decide (a<(b.length:Int))) (0<=a/\∃(d:List PV),(b)[toNat a]?=some d/\ ∃g i j k l r m,az d 0 6=some [pI g,pS i,pI j,pS k,pI l,.list 3 r m]/\ aa prog 262 [.agg [pI g,pS i,pI j,pS k,pI l,.list 3 .sh m]] e λq f=> ∃n,q=(pB n)/\ ab (!n) (K (pB false) f) (p (wrap .i64 (a+1)) f)) (K (pB true) e)) (0) u0):aa prog 242 [.list 6 o b] u0 K:= VC [4] [(2,⟨[(7,.one (.raw (.int .i64)))],[]⟩)] [] [] [] [] [] func242 h
def Hi.c{a d:ByteArray}{b e:Int}(h: ab (!aG a ⟨#[]⟩) (aa prog 186 [pS a] u0 λm f=> ∃j,m=(pB j)/\ ab j (aa prog 263 [.agg [pI b,pS d,pI e]] f λn k=> ∃g,n=(pB g)/\ K (pB g) k) (K (pB false) f)) (aa prog 264 [.agg [pI b,pS d,pI e]] u0 λo l=> ∃i,o=(pB i)/\ K (pB i) l)):aa prog 243 [.agg [pS a,pI b,pS d,pI e]] u0 K:= VC [1] [] [] [] [] [] [] func243 h
def Hf.c{a i k d f:Int}{g j b e:ByteArray}(h: ab (decide (a<0)) (K (pB false) u0) (ab (decide (a>3)) (K (pB false) u0) (aa prog 243 [.agg [pS g,pI i,pS j,pI k]] u0 λv l=> ∃o,v=(pB o)/\ ab (!o) (K (pB false) l) (ab (a == 0) (aa prog 246 [.agg [pS b,pI d,pS e,pI f]] l λw t=> ∃p,w=(pB p)/\ K (pB p) t) (aa prog 243 [.agg [pS b,pI d,pS e,pI f]] l λx m=> ∃q,x=(pB q)/\ ab q (aa prog 265 [.agg [pS g,pI i,pS j,pI k]] m λy n=> ∃r,y=(pB r)/\ ab (!r) (aa prog 265 [.agg [pS b,pI d,pS e,pI f]] n λz u=> ∃s,z=(pB s)/\ K (pB (!s)) u) (K (pB false) n)) (K (pB false) m)))))):aa prog 244 [.agg [pI a,pS g,pI i,pS j,pI k,pS b,pI d,pS e,pI f]] u0 K:= VC [1] [] [] [] [] [] [] func244 h
def DA.c{a:Int}(h: ab (a == 8) (K (pB true) u0) (ab (a == 9) (K (pB true) u0) (K (pB (a == 10)) u0))):aa prog 245 [pI a] u0 K:= VC [] [] [] [] [] [] [] func245 h
def DB.c{a d:ByteArray}{b e:Int}(h: ab (aG a ⟨#[]⟩) (aa prog 263 [.agg [pI b,pS d,pI e]] u0 λi g=> ∃f,i=(pB f)/\ K (pB f) g) (K (pB false) u0)):aa prog 246 [.agg [pS a,pI b,pS d,pI e]] u0 K:= VC [1] [] [] [] [] [] [] func246 h
def lB.c{d:Option Addr}{i:ByteArray}(h: nP d λo q=> ∃s l,ay u0 o q 1=some [.list 1 s l]/\ ak (α:=Int×Int) (λj a e=> ab (decide (a.1<a.2)) ((2:Int)≠0/\ nP d λp r=> ∃t m,ay e p r 1=some [.list 1 t m]/\ 0<=(wrap .i64 (a.1+(wrap .i64 (tdiv (wrap .i64 (a.2-a.1)) 2))))/\∃(k:List PV),(m)[toNat (wrap .i64 (a.1+(wrap .i64 (tdiv (wrap .i64 (a.2-a.1)) 2))))]?=some k/\ ∃n,az k 0 1=some [pS n]/\ (∀b,pv prog (method (prog.types.size+Made.depth) 292 b "Compare")=some (341,b))/\ aa prog 341 [pS n,pS i] e λb f=> ∃g,b=(pI g)/\ ab (g == 0) (K (.aB [pI (wrap .i64 (a.1+(wrap .i64 (tdiv (wrap .i64 (a.2-a.1)) 2)))),pB true]) f) (ab (decide (g<0)) (j ((wrap .i64 ((wrap .i64 (a.1+(wrap .i64 (tdiv (wrap .i64 (a.2-a.1)) 2))))+1)),a.2) f) (j (a.1,(wrap .i64 (a.1+(wrap .i64 (tdiv (wrap .i64 (a.2-a.1)) 2))))) f))) (K (.aB [pI a.1,pB false]) e)) (0,(l.length:Int)) u0):aa prog 247 [pA d,pS i] u0 K:= VC [] [(2,⟨[(6,.one (.raw (.int .i64))),(7,.one (.raw (.int .i64)))],[]⟩)] [] [] [] [] [] func247 h
def mB.c{a:Option Addr}(h: nP a λg m=> ∃f,ay u0 g (m+1) 1=some [pB f]/\ ab f (nP a λi n=> ∃x b,ay u0 i n 1=some [.list 1 x b]/\ nP a λj o=> ∃e d,ay u0 j o 1=some [.list 1 e d]/\ (0:Int)<=0/\0<=(wrap .i64 ((b.length:Int)+1))/\(wrap .i64 ((b.length:Int)+1))<(4611686018427387904:Int)/\toNat (wrap .i64 ((b.length:Int)+1))*16<=140737488355328/\ ∀(y:Nat),u0 y=none-> eB 1 16 292 (some ⟨y,0,none⟩) (toNat 0) (toNat (wrap .i64 ((b.length:Int)+1))) (.list 1 e d) (Mem.set u0 y (some (.cells 292 (List.flatten (List.replicate (toNat (wrap .i64 ((b.length:Int)+1))) [pS ⟨#[]⟩]))))) λr t s u=> nP a λk p=> stM k p [pV r t s] u λv=> nP a λl q=> stM l (q+1) [pB false] v λw=> K (.aB []) w) (K (.aB []) u0)):aa prog 248 [pA a] u0 K:= VC [] [] [] [] [] [] [] func248 h
def kK.c{a:Option Addr}(h: ab (isNone a) (cl u0 343 [.list 1 .nil [],pB false] λi m=> K (pP i 0) m) (nP a λf k=> stM f (k+1) [pB true] u0 λb=> nP a λj l=> ∃e d,ay b j l 1=some [.list 1 e d]/\ cl b 343 [.list 1 e d,pB true] λg n=> K (pP g 0) n)):aa prog 249 [pA a] u0 K:= VC [] [] [] [] [] [] [] func249 h
def wJ.c{a:Option Addr}{b:ByteArray}(h: nP a λk n=> ∃i,ay u0 k n 1=some [pA i]/\ aa prog 210 [pA i,pS b] u0 λv d=> ∃j,v=(pB j)/\ ab j (nP a λl o=> ∃e g f,ay d l (o+1) 1=some [pV e g f]/\ eB 1 16 9 e g f (.list 1 .nr [[pS b]]) d λq s r t=> nP a λm p=> stM m (p+1) [pV q s r] t λu=> K (.aB []) u) (K (.aB []) d)):aa prog 250 [pA a,pS b] u0 K:= VC [] [] [] [] [] [] [14,17] func250 h
def sm.c{f:Option Addr}{m:Fl}{g:Lq}(h: ak (α:=Int) (λd a b=> ab (decide (a<(g.length:Int))) (0<=a/\∃(j:List PV),(g)[toNat a]?=some j/\ ∃i e q r s u t,az j 0 6=some [pI i,pS e,pI q,pS r,pI s,.list 3 u t]/\ ab (i == 8) (d (wrap .i64 (a+1)) b) (ab (aG e ⟨#[]⟩) (d (wrap .i64 (a+1)) b) (ab (i == 1) (aa prog 250 [pA f,pS e] b λo n=>
 o=(.aB [])/\ d (wrap .i64 (a+1)) n) (aa prog 213 [pA f,pS e] b λp k=> ∃l,p=(pB l)/\ ab (!l) (K (pB false) k) (d (wrap .i64 (a+1)) k))))) (K (pB true) b)) (0) u0):aa prog 251 [pA f,.list 6 m g] u0 K:= VC [6] [(2,⟨[(9,.one (.raw (.int .i64)))],[]⟩)] [] [] [] [] [] func251 h
def kJ.c{a:Option Addr}{b:ByteArray}(h: ab (isNone a) (K (.aB [pI 0,pB false]) u0) (aa prog 247 [pA a,pS b] u0 λg f=> ∃d e,g=(.aB [pI d,pB e])/\ K (.aB [pI d,pB e]) f)):aa prog 252 [pA a,pS b] u0 K:= VC [] [] [] [] [] [] [] func252 h
def Hc.c{b f d g e:Int}{j k:ByteArray}(h: cg (α:=Bool) (λl=> ab (f == 2) (l (g == 2) u0) (l false u0)) (λi a=> ab (b == 1) (K (pB ((f == g)&&(aG j k&&((d == e)&&true)))) a) (ab (b == 2) (K (pB (!((f == g)&&(aG j k&&((d == e)&&true))))) a) (ab (b == 3) (ab i (K (pB (decide (d<e))) a) (K (pB false) a)) (ab (b == 4) (ab i (K (pB (decide (d<=e))) a) (K (pB false) a)) (ab (b == 5) (ab i (K (pB (decide (d>e))) a) (K (pB false) a)) (ab (b == 6) (ab i (K (pB (decide (d>=e))) a) (K (pB false) a)) (ab (b == 7) (K (pB (f == g)) a) (K (pB false) a))))))))):aa prog 257 [pI b,.agg [pI f,pS j,pI d],.agg [pI g,pS k,pI e]] u0 K:= VC [4,5] [] [(2,⟨[(7,.one (.raw .bool))],[]⟩)] [] [] [] [] func257 h
def uG.c{i:Fl}{b:Lq}{e:Int}(h: ak (α:=Int) (λj a d=> ab (decide (a<(b.length:Int))) (0<=a/\∃(f:List PV),(b)[toNat a]?=some f/\ ∃g,az f 2 1=some [pI g]/\ ab (g == e) (K (pB true) d) (j (wrap .i64 (a+1)) d)) (K (pB false) d)) (0) u0):aa prog 260 [.list 3 i b,pI e] u0 K:= VC [] [(2,⟨[(5,.one (.raw (.int .i64)))],[]⟩)] [] [] [] [] [] func260 h
def uI.c{e n p q s t v M:Int}{f a b g:Bool}{i o r u:ByteArray}{k m L x:Fl}{j l J w:Lq}(h: cg (α:=Unit) (λd=> ab (e != 1) (ab (e != 2) (K (.aB [.list 4 .nil [],pB false]) u0) (ab f (ab (!g) (K (.aB [.list 4 .nil [],pB false]) u0) (ab (!(a == b)) (K (.aB [.list 4 .nil [],pB false]) u0) (d () u0))) (ab (!(a == b)) (K (.aB [.list 4 .nil [],pB false]) u0) (d () u0)))) (ab f (ab (!g) (K (.aB [.list 4 .nil [],pB false]) u0) (ab (!(a == b)) (K (.aB [.list 4 .nil [],pB false]) u0) (d () u0))) (ab (!(a == b)) (K (.aB [.list 4 .nil [],pB false]) u0) (d () u0)))) (λS N=> aa prog 266 [.agg [pI 1,pS i,pI 0,pS ⟨#[]⟩,pI 0,.list 3 .sh []],.agg [pI n,pS o,pI p],.list 4 x w] N λP y=> ∃B A C,P=(.aB [.list 4 B A,pB C])/\ ab (!C) (K (.aB [.list 4 .nil [],pB false]) y) (aa prog 267 [.list 6 k j,.agg [pI q,pS r,pI s],.list 4 B A] y λQ z=> ∃E D F,Q=(.aB [.list 4 E D,pB F])/\ ab (!F) (K (.aB [.list 4 .nil [],pB false]) z) (aa prog 267 [.list 6 m l,.agg [pI t,pS u,pI v],.list 4 E D] z λR O=> ∃H G I,R=(.aB [.list 4 H G,pB I])/\ K (.aB [.list 4 H G,pB I]) O)))):aa prog 261 [.agg [pI e,pB f,pS i,.list 6 k j,.list 6 m l,pB a,.list 7 L J],.agg [pI n,pS o,pI p,pI q,pS r,pI s,pI t,pS u,pI v,pB b,pB g,pI M],.list 4 x w] u0 K:= VC [3,4] [] [(3,⟨[],[]⟩)] [] [] [] [] func261 h
def He.c{b e g:Int}{d f:ByteArray}{w:Fl}{a:Lq}(h: ab (b == 8) (ab (!aG d ⟨#[]⟩) (K (pB false) u0) (aa prog 263 [.agg [pI e,pS f,pI g]] u0 λA j=> ∃o,A=(pB o)/\ ab (!o) (K (pB false) j) (ab (decide ((a.length:Int)<1)) (K (pB false) j) (ab (decide ((a.length:Int)>8)) (K (pB false) j) (ak (α:=Int) (λx i l=> ab (decide (i<(a.length:Int))) (0<=i/\∃(k:List PV),(a)[toNat i]?=some k/\ ∃p q r,az k 0 3=some [pI p,pS q,pI r]/\ aa prog 264 [.agg [pI p,pS q,pI r]] l λB m=> ∃s,B=(pB s)/\ ab (!s) (K (pB false) m) (x (wrap .i64 (i+1)) m)) (K (pB true) l)) (0) j))))) (ab (decide (b<1)) (K (pB false) u0) (ab (decide (b>7)) (K (pB false) u0) (ab (decide ((a.length:Int)>0)) (K (pB false) u0) (ab (!aG d ⟨#[]⟩) (aa prog 186 [pS d] u0 λC n=> ∃t,C=(pB t)/\ ab t (aa prog 263 [.agg [pI e,pS f,pI g]] n λD y=> ∃u,D=(pB u)/\ K (pB u) y) (K (pB false) n)) (aa prog 264 [.agg [pI e,pS f,pI g]] u0 λE z=> ∃v,E=(pB v)/\ K (pB v) z)))))):aa prog 262 [.agg [pI b,pS d,pI e,pS f,pI g,.list 3 w a]] u0 K:= VC [1,4] [(5,⟨[(32,.one (.raw (.int .i64)))],[]⟩)] [] [] [] [] [] func262 h
def Hg.c{a d:Int}{b:ByteArray}(h: K (pB ((a == 0)&&(aG b ⟨#[]⟩&&((d == 0)&&true)))) u0):aa prog 263 [.agg [pI a,pS b,pI d]] u0 K:= VC [1] [] [] [] [] [] [] func263 h
def yH.c{a d:Int}{b:ByteArray}(h: ab (a != 1) (aa prog 122 [.agg [pI a,pS b,pI d]] u0 λg f=> ∃e,g=(pB e)/\ K (pB e) f) (K (pB false) u0)):aa prog 264 [.agg [pI a,pS b,pI d]] u0 K:= VC [1] [] [] [] [] [] [] func264 h
def Hd.c{a d:ByteArray}{b e:Int}(h: ab (aG a ⟨#[]⟩) (K (pB (b == 3)) u0) (K (pB false) u0)):aa prog 265 [.agg [pS a,pI b,pS d,pI e]] u0 K:= VC [1] [] [] [] [] [] [] func265 h
def wP.c{a p r f i:Int}{e q g:ByteArray}{E d:Fl}{k b:Lq}(h: ab (a == 8) (ak (α:=Int) (λF j m=> ab (decide (j<(k.length:Int))) (0<=j/\∃(s:List PV),(k)[toNat j]?=some s/\ ∃u v w,az s 0 3=some [pI u,pS v,pI w]/\ ab ((u == f)&&(aG v g&&((w == i)&&true))) (K (.aB [.list 4 d b,pB true]) m) (F (wrap .i64 (j+1)) m)) (K (.aB [.list 4 .nil [],pB false]) m)) (0) u0) (ab (decide (a<1)) (K (.aB [.list 4 .nil [],pB false]) u0) (ab (decide (a>7)) (K (.aB [.list 4 .nil [],pB false]) u0) (cg (α:=Int×ByteArray×Int) (λo=> ab (!aG e ⟨#[]⟩) (aa prog 268 [.list 4 d b,pS e] u0 λI n=> ∃x y z A,I=(.aB [.agg [pI x,pS y,pI z],pB A])/\ ab (!A) (ab (a != 1) (K (.aB [.list 4 .nil [],pB false]) n) (aa prog 269 [.list 4 d b,pS e,.agg [pI f,pS g,pI i]] n λJ H=> ∃C B,J=(.list 4 C B)/\ K (.aB [.list 4 C B,pB true]) H)) (o (x,y,z) n)) (o (p,q,r) u0)) (λl G=> aa prog 270 [pI a,.agg [pI f,pS g,pI i],.agg [pI l.1,pS l.2.1,pI l.2.2]] G λL t=> ∃D,L=(pB D)/\ ab (!D) (K (.aB [.list 4 .nil [],pB false]) t) (K (.aB [.list 4 d b,pB true]) t)))))):aa prog 266 [.agg [pI a,pS e,pI p,pS q,pI r,.list 3 E k],.agg [pI f,pS g,pI i],.list 4 d b] u0 K:= VC [3,4,9,10] [(3,⟨[(8,.one (.raw (.int .i64)))],[]⟩)] [(18,⟨[(9,.box [.raw (.int .i64),.raw .str,.raw (.int .i64)])],[]⟩)] [] [] [] [] func266 h
def su.c{v i:Fl}{b g:Lq}{d f:Int}{e:ByteArray}(h: ak (α:=(Fl×Lq)×Int) (λw a k=> ab (decide (a.2<(b.length:Int))) (0<=a.2/\∃(j:List PV),(b)[toNat a.2]?=some j/\ ∃m n o p q y r,az j 0 6=some [pI m,pS n,pI o,pS p,pI q,.list 3 y r]/\ aa prog 266 [.agg [pI m,pS n,pI o,pS p,pI q,.list 3 .sh r],.agg [pI d,pS e,pI f],.list 4 a.1.1 a.1.2] k λx l=> ∃t s u,x=(.aB [.list 4 t s,pB u])/\ ab (!u) (K (.aB [.list 4 .nil [],pB false]) l) (w ((t,s),(wrap .i64 (a.2+1))) l)) (K (.aB [.list 4 a.1.1 a.1.2,pB true]) k)) ((i,g),0) u0):aa prog 267 [.list 6 v b,.agg [pI d,pS e,pI f],.list 4 i g] u0 K:= VC [4] [(2,⟨[(2,.one (.list 4)),(8,.one (.raw (.int .i64)))],[]⟩)] [] [] [] [] [] func267 h
def wQ.c{m:Fl}{b:Lq}{e:ByteArray}(h: ak (α:=Int) (λn a d=> ab (decide (a<(b.length:Int))) (0<=a/\∃(f:List PV),(b)[toNat a]?=some f/\ ∃i,az f 0 1=some [pS i]/\ ab (aG i e) (0<=a/\∃(g:List PV),(b)[toNat a]?=some g/\ ∃j k l,az g 1 3=some [pI j,pS k,pI l]/\ K (.aB [.agg [pI j,pS k,pI l],pB true]) d) (n (wrap .i64 (a+1)) d)) (K (.aB [.agg [pI 0,pS ⟨#[]⟩,pI 0],pB false]) d)) (0) u0):aa prog 268 [.list 4 m b,pS e] u0 K:= VC [4] [(2,⟨[(6,.one (.raw (.int .i64)))],[(4,3)]⟩)] [] [] [] [] [] func268 h
def uF.c{g:Fl}{a:Lq}{b e:ByteArray}{d f:Int}(h: (aR true 4 48 .nil [] a u0 λk m=> aR false 4 48 k ([]++a) [[pS b,pI d,pS e,pI f]] m λi n=> K (.list 4 i (([]++a)++[[pS b,pI d,pS e,pI f]])) n)/\ (aR true 4 48 .nil [] a u0 λl o=> aR false 4 48 l ([]++a) [[pS b,pI d,pS e,pI f]] o λj p=> K (.list 4 j (([]++a)++[[pS b,pI d,pS e,pI f]])) p)):aa prog 269 [.list 4 g a,pS b,.agg [pI d,pS e,pI f]] u0 K:= VC [5] [] [] [] [] [] [] func269 h
def sv.c{b f d g e:Int}{j k:ByteArray}(h: cg (α:=Bool) (λl=> ab (f == 2) (l (g == 2) u0) (l false u0)) (λi a=> ab (b == 1) (K (pB ((f == g)&&(aG j k&&((d == e)&&true)))) a) (ab (b == 2) (K (pB (!((f == g)&&(aG j k&&((d == e)&&true))))) a) (ab (b == 3) (ab i (K (pB (decide (d<e))) a) (K (pB false) a)) (ab (b == 4) (ab i (K (pB (decide (d<=e))) a) (K (pB false) a)) (ab (b == 5) (ab i (K (pB (decide (d>e))) a) (K (pB false) a)) (ab (b == 6) (ab i (K (pB (decide (d>=e))) a) (K (pB false) a)) (ab (b == 7) (K (pB (f == g)) a) (K (pB false) a))))))))):aa prog 270 [pI b,.agg [pI f,pS j,pI d],.agg [pI g,pS k,pI e]] u0 K:= VC [4,5] [] [(2,⟨[(7,.one (.raw .bool))],[]⟩)] [] [] [] [] func270 h
def xn.c{d f g j:Int}{e i:ByteArray}(h: aa prog 287 [pI d,pI g] u0 λo k=> ∃a,o=(pI a)/\ ab (a != 0) (K (pI a) k) (aa prog 288 [pS e,pS i] k λp l=> ∃b,p=(pI b)/\ ab (b != 0) (K (pI b) l) (aa prog 287 [pI f,pI j] l λq n=> ∃m,q=(pI m)/\ K (pI m) n))):aa prog 286 [.agg [pI d,pS e,pI f],.agg [pI g,pS i,pI j]] u0 K:= VC [2,3] [] [] [] [] [] [] func286 h
def w_.c{b d:Int}(h: aa prog 289 [pI b] u0 λi g=> ∃f,i=(pB f)/\ aa prog 289 [pI d] g λj a=> ∃e,j=(pB e)/\ ab f (ab e (K (pI 0) a) (K (pI (-1)) a)) (ab e (K (pI 1) a) (ab (decide (b<d)) (K (pI (-1)) a) (ab (decide (b>d)) (K (pI 1) a) (K (pI 0) a))))):aa prog 287 [pI b,pI d] u0 K:= VC [] [] [] [] [] [] [] func287 h
def rE.c{b d:ByteArray}(h: aa prog 290 [pS b] u0 λi g=> ∃f,i=(pB f)/\ aa prog 290 [pS d] g λj a=> ∃e,j=(pB e)/\ ab f (ab e (K (pI 0) a) (K (pI (-1)) a)) (ab e (K (pI 1) a) (ab (Op.bytesLess (ByteArray.toList b) (ByteArray.toList d)) (K (pI (-1)) a) (ab (!(Op.bytesLess (ByteArray.toList b) (ByteArray.toList d)||aG b d)) (K (pI 1) a) (K (pI 0) a))))):aa prog 288 [pS b,pS d] u0 K:= VC [] [] [] [] [] [] [] func288 h
def Aa.c{a:Int}(h: K (pB (a != a)) u0):aa prog 289 [pI a] u0 K:= VC [] [] [] [] [] [] [] func289 h
def uX.c{a:ByteArray}(h: K (pB (!aG a a)) u0):aa prog 290 [pS a] u0 K:= VC [] [] [] [] [] [] [] func290 h
def sq.c{a b:ByteArray}(h: ab (Op.bytesLess (ByteArray.toList a) (ByteArray.toList b)) (K (pI (-1)) u0) (ab (!(Op.bytesLess (ByteArray.toList a) (ByteArray.toList b)||aG a b)) (K (pI 1) u0) (K (pI 0) u0))):aa prog 296 [pS a,pS b] u0 K:= VC [] [] [] [] [] [] [] func296 h
def rv.c{b i e k:Fl}{a g d j:Lq}(h: aa prog 298 [.list 1 b a,.list 1 e d] u0 λm l=> ∃f,m=(pI f)/\ K (pI f) l):aa prog 297 [.agg [.list 1 b a,.list 4 i g],.agg [.list 1 e d,.list 4 k j]] u0 K:= VC [2,3] [] [] [] [] [] [] func297 h
def JW.c{p q:Fl}{b d:Lq}(h: cg (α:=Unit) (λf=> ak (α:=Int) (λr a e=> ab (decide (a<(b.length:Int))) (ab (decide (a<(d.length:Int))) (0<=a/\∃(g:List PV),(b)[toNat a]?=some g/\ ∃l,az g 0 1=some [pI l]/\ 0<=a/\∃(i:List PV),(d)[toNat a]?=some i/\ ∃m,az i 0 1=some [pI m]/\ ab (l != m) (0<=a/\∃(j:List PV),(b)[toNat a]?=some j/\ ∃n,az j 0 1=some [pI n]/\ 0<=a/\∃(k:List PV),(d)[toNat a]?=some k/\ ∃o,az k 0 1=some [pI o]/\ K (pI (wrap .i64 (n-o))) e) (r (wrap .i64 (a+1)) e)) (f () e)) (f () e)) (0) u0) (λt s=> K (pI (wrap .i64 ((b.length:Int)-(d.length:Int)))) s)):aa prog 298 [.list 1 p b,.list 1 q d] u0 K:= VC [] [(2,⟨[(5,.one (.raw (.int .i64)))],[]⟩)] [(6,⟨[],[]⟩)] [] [] [] [] func298 h
def qe.c{d f g j k m a p r s u v x b:Int}{e i l q t w:ByteArray}{n o y z:Bool}(h: ab (decide (a<b)) (K (pI (-1)) u0) (ab (decide (a>b)) (K (pI 1) u0) (K (pI 0) u0))):aa prog 299 [.agg [pI d,pS e,pI f,pI g,pS i,pI j,pI k,pS l,pI m,pB n,pB o,pI a],.agg [pI p,pS q,pI r,pI s,pS t,pI u,pI v,pS w,pI x,pB y,pB z,pI b]] u0 K:= VC [2,3] [] [] [] [] [] [] func299 h
def qf.c{a b:Int}(h: K (pI (wrap .i64 (a-b))) u0):aa prog 306 [pI a,pI b] u0 K:= VC [] [] [] [] [] [] [] func306 h
def fY.c{b f d n:ByteArray}{i k m p r t:Fl}{g j l o q s:Lq}(h: (∀a,pv prog (method (prog.types.size+Made.depth) 118 a "Compare")=some (296,a))/\ aa prog 296 [pS b,pS d] u0 λa u=> ∃e,a=(pI e)/\ K (pI e) u):aa prog 307 [.agg [pS b,pS f,.list 7 i g,.list 19 k j,.list 1 m l],.agg [pS d,pS n,.list 7 p o,.list 19 r q,.list 1 t s]] u0 K:= VC [2,3] [] [] [] [] [] [] func307 h
def pG.c{a b:Int}(h: ab (decide (a<b)) (K (pI (-1)) u0) (ab (decide (a>b)) (K (pI 1) u0) (K (pI 0) u0))):aa prog 316 [pI a,pI b] u0 K:= VC [] [] [] [] [] [] [] func316 h
def eC.c{b e f i:Int}{d g:ByteArray}{k l:Option Addr}(h: (∀a,pv prog (method (prog.types.size+Made.depth) 37 a "Compare")=some (286,a))/\ aa prog 286 [.agg [pI b,pS d,pI e],.agg [pI f,pS g,pI i]] u0 λa m=> ∃j,a=(pI j)/\ K (pI j) m):aa prog 327 [.agg [pI b,pS d,pI e,pA k],.agg [pI f,pS g,pI i,pA l]] u0 K:= VC [2,3] [] [] [] [] [] [] func327 h
def fS.c{b f i j l m o r d s u v x y A D:Int}{g k n t w z:ByteArray}{p q B C:Bool}(h: (∀a,pv prog (method (prog.types.size+Made.depth) 191 a "Compare")=some (316,a))/\ aa prog 316 [pI b,pI d] u0 λa E=> ∃e,a=(pI e)/\ K (pI e) E):aa prog 331 [.agg [pI b,pI f,pS g,pI i,pI j,pS k,pI l,pI m,pS n,pI o,pB p,pB q,pI r],.agg [pI d,pI s,pS t,pI u,pI v,pS w,pI x,pI y,pS z,pI A,pB B,pB C,pI D]] u0 K:= VC [2,3] [] [] [] [] [] [] func331 h
def eY.c{b f q d s C:Int}{g n t z:Bool}{i u:ByteArray}{k m p w y B:Fl}{j l o v x A:Lq}{r D:Option Addr}(h: (∀a,pv prog (method (prog.types.size+Made.depth) 191 a "Compare")=some (316,a))/\ aa prog 316 [pI b,pI d] u0 λa E=> ∃e,a=(pI e)/\ K (pI e) E):aa prog 335 [.agg [pI b,pI f,pB g,pS i,.list 6 k j,.list 6 m l,pB n,.list 7 p o,pI q,pA r],.agg [pI d,pI s,pB t,pS u,.list 6 w v,.list 6 y x,pB z,.list 7 B A,pI C,pA D]] u0 K:= VC [2,3] [] [] [] [] [] [] func335 h
def ru.c{a b:ByteArray}(h: ab (Op.bytesLess (ByteArray.toList a) (ByteArray.toList b)) (K (pI (-1)) u0) (ab (!(Op.bytesLess (ByteArray.toList a) (ByteArray.toList b)||aG a b)) (K (pI 1) u0) (K (pI 0) u0))):aa prog 341 [pS a,pS b] u0 K:= VC [] [] [] [] [] [] [] func341 h
def pF.c{e g i k l n a q s t v w y b:Int}{f j m r u x:ByteArray}{o p z A:Bool}(h: aa prog 316 [pI a,pI b] u0 λC B=> ∃d,C=(pI d)/\ K (pI d) B):aa prog 342 [.agg [pI e,pS f,pI g,pI i,pS j,pI k,pI l,pS m,pI n,pB o,pB p,pI a],.agg [pI q,pS r,pI s,pI t,pS u,pI v,pI w,pS x,pI y,pB z,pB A,pI b]] u0 K:= VC [2,3] [] [] [] [] [] [] func342 h
end Go.Proofs.YthaeiehophlooaaGreat
namespace Go.Proofs.YthaeiehophlooaaGreat
open Go.aP Go.RowKit
mutual
def aQ:ae->Nat
 | .mk _ _ _ _ _ _ cs=>1+ah cs
def ah:List ae->Nat
 |[]=>0
 |c::cs=>aQ c+ah cs
end
def bN(c:ae):aQ c=1+ah c.conds:=by cases c;rfl
def kY(a b:List ae):ah (a++b)=ah a+ah b:=by
 induction a with
 |nil=>simp[ah]
 |cons c a e=>simp only[cons_append,ah,e];omega
def dw{l:List ae}{k:Nat}(e:k<l.length):ah (l.take (k+1))=ah (l.take k)+(1+ah l[k].conds):=by
 rw[take_add_one,kY,getElem?_eq_getElem e];simp[ah,bN]
def iw(l:List ae)(k:Nat):ah l=ah (l.take k)+ah (l.drop k):=by rw[<- kY,take_append_drop]
def di{l:List ae}{c:ae}(h:c∈l):1+ah c.conds<=ah l:=by
 induction l with
 |nil=>cases h
 |cons d l e=>
  simp only[ah];rcases mem_cons.1 h with rfl|h
  .rw[bN];omega
  .have:=e h;omega
def cz(l:List ae):l.length<=ah l:=by
 induction l with
 |nil=>simp
 |cons c l e=>simp only[length_cons,ah,bN];omega
mutual
def gW:ae->Nat->Nat->List (Nat×Nat×ae)
 | .mk k g i a v ac cs,at_,deep=>(at_,deep,.mk k g i a v ac cs)::dd cs (at_+1) (deep+1)
def dd:List ae->Nat->Nat->List (Nat×Nat×ae)
 |[],_,_=>[]
 |c::cs,at_,deep=>gW c at_ deep++dd cs (at_+aQ c) deep
end
def MR(c:ae)(at_ deep:Nat):gW c at_ deep=(at_,deep,c)::dd c.conds (at_+1) (deep+1):=by cases c;rfl
def qG:∀(a b:List ae) (at_ deep:Nat),dd (a++b) at_ deep=dd a at_ deep++dd b (at_+ah a) deep
 |[],b,at_,deep=>by simp[dd,ah]
 |c::a,b,at_,deep=>by
  simp only[cons_append,dd,qG a b,ah,List.append_assoc]
  congr 3;omega
mutual
theorem nU:∀(c:ae) (at_ deep:Nat),(gW c at_ deep).length=aQ c
 | .mk k g i a v ac cs,at_,deep=>by simp only[gW,length_cons,aQ,j_ cs];omega
theorem j_:∀(l:List ae) (at_ deep:Nat),(dd l at_ deep).length=ah l
 |[],_,_=>rfl
 |c::cs,at_,deep=>by simp only[dd,List.length_append,nU c,j_ cs,ah]
end
def nb{b:Bool}(h:(!b)=true):b=false:=by simpa using h
def nt{b:Bool}(h:(!b)=false):b=true:=by simpa using h
def Ed{l:List ae}{k:Nat}(e:k<l.length)(a d:Nat):dd (l.take (k+1)) a d=dd (l.take k) a d++((a+ah (l.take k),d,l[k])::dd l[k].conds (a+ah (l.take k)+1) (d+1)):=by
 rw[take_add_one,qG,getElem?_eq_getElem e];simp[dd,MR]
def FL{l:List ae}{k:Nat}(e:k<l.length)(a d:Nat):dd l a d=dd (l.take k) a d++((a+ah (l.take k),d,l[k])::dd l[k].conds (a+ah (l.take k)+1) (d+1))++dd (l.drop (k+1)) (a+ah (l.take (k+1))) d:=by
 rw[<- Ed e,<- qG,take_append_drop]
mutual
theorem KW:∀(c:ae) (a d k:Nat) (x:Nat×Nat×ae),(gW c a d)[k]?=some x->x.1=a+k
 | .mk kk g i at' v ac cs,a,d,k,x,h=>by
   simp only[gW]at h
   cases k with
   |zero=>simp only[List.getElem?_cons_zero,Option.some.injEq]at h;subst h;rfl
   |succ k=>
    simp only[List.getElem?_cons_succ]at h
    have:=tA cs (a+1) (d+1) k x h;omega
theorem tA:∀(l:List ae) (a d k:Nat) (x:Nat×Nat×ae),(dd l a d)[k]?=some x->x.1=a+k
 |[],a,d,k,x,h=>by simp[dd]at h
 |c::cs,a,d,k,x,h=>by
  simp only[dd]at h
  by_cases hk:k<(gW c a d).length
  .rw[List.getElem?_append_left hk]at h;exact KW c a d k x h
  .rw[List.getElem?_append_right (by omega)]at h
   have:=tA cs (a+aQ c) d _ x h
   rw[nU]at this hk;omega
end
def oW(t:Test):Prop:=t.list.length<=40/\t.var.size<=100/\t.sym.t.size<=100
mutual
def cU:ae->Prop
 | .mk _ _ i a v _ cs=>i.size<=100/\a.length<=40/\v.length<=40/\(∀t∈a,oW t)/\(∀t∈v,oW t)/\bO cs
def bO:List ae->Prop
 |[]=>True
 |c::cs=>cU c/\bO cs
end
def bJ(c:ae):cU c↔c.id.size<=100/\c.attr.length<=40/\c.value.length<=40/\(∀t∈c.attr,oW t)/\(∀t∈c.value,oW t)/\bO c.conds:=by cases c;rfl
def cG{l:List ae}:bO l↔∀c∈l,cU c:=by
 induction l with
 |nil=>simp[bO]
 |cons c l e=>simp[bO,e]
mutual
theorem BG:∀(c:ae) (a d:Nat) (x:Nat×Nat×ae),cU c->x∈gW c a d->cU x.2.2
 | .mk k g i at' v ac cs,a,d,x,h,hx=>by
   simp only[gW,mem_cons]at hx
   rcases hx with rfl|hx
   .exact h
   .exact tO cs _ _ x ((bJ _).1 h).2.2.2.2.2 hx
theorem tO:∀(l:List ae) (a d:Nat) (x:Nat×Nat×ae),bO l->x∈dd l a d->cU x.2.2
 |[],a,d,x,_,hx=>by simp[dd]at hx
 |c::cs,a,d,x,h,hx=>by
  simp only[dd,mem_append]at hx
  rcases hx with hx|hx
  .exact BG c a d x h.1 hx
  .exact tO cs _ d x h.2 hx
end
def cD{l:List Test}(h:∀t∈l,oW t):∀t∈l,t.list.length<=1000000:=λt e=>Nat.le_trans (h t e).1 (by omega)
open Go.Proofs.Tryz
def jT(c:ae):az c.pv 0 7=some [pI c.kind,pB c.goal,pS c.id,.list 6 .sh (c.attr.map Test.pv),.list 6 .sh (c.value.map Test.pv),pB c.acc,.list 7 .sh (c.conds.map ae.pv)]:=by rw[ae.de];rfl
def TU:∀(n:Nat) (fl:Fl) (l:List ae) (eb deep:Nat),ah l<=n->eb<=1000->deep<=21->av prog 25 [.list 7 fl (l.map ae.pv),pI (eb:Nat),pI (deep:Nat)] λp=>∃r:Nat,p=pI (r:Nat)/\r<=eb+1/\(r<=eb->ah l=r):=by
 intro n;induction n with
 |zero=>
  intro fl l eb deep h C U;have:l=[]:=by
   cases l with
   |nil=>rfl
   |cons c l=>simp[ah,bN]at h
  subst this;refine av.of (ni.c ?_);refine ab.mk (λh=>⟨eb+1,?_,by omega,λh=>by omega⟩) (λh=>?_)
  .rw[aD (by omega) (by omega)];rfl
  .refine⟨λs _=>s=0,?_,?_⟩
   .exact ak.up2 0 (by omega) (λk x u=>x=0) rfl λk x u next Q J H=>by
     have:k=0:=by omega
     subst this J;exact ab.f (by simp) rfl
   .rintro s u rfl;rw[aD (by omega) (by omega),if_neg (by omega)];exact⟨0,rfl,by omega,λ_=>rfl⟩
 |succ n I=>
  intro fl l eb deep h C U;refine av.of (ni.c ?_);refine ab.mk (λh=>⟨eb+1,?_,by omega,λh=>by omega⟩) (λg=>?_)
  .rw[aD (by omega) (by omega)];rfl
  .have g:=of_decide_eq_false g;refine⟨λs _=>∃m:Nat,s=(m:Int)/\m<=2*eb+2/\(m<=eb->ah l=m),?_,?_⟩
   .refine ak.up2 (2*eb+5) (by omega) (λk x u=>∃m:Nat,x=(m:Int)/\k<=m/\m<=2*eb+2/\(m<=eb->ah (l.take k)=m)) ⟨0,rfl,by omega,by omega,λ_=>by simp[ah]⟩ ?_;rintro k _ u next Q ⟨m,rfl,O,w,j⟩ H
    refine ab.mk (λe=>ab.mk (λi=>?_) (λi=>?_)) (λe=>?_)
    .have e:=of_decide_eq_true e;have i:=of_decide_eq_true i;simp only[length_map]at e;have A:k<l.length:=by omega
     have L:=j (by omega);have fB:=di (getElem_mem A);refine⟨by omega,_,aA A,.sh,l[k].conds.map ae.pv,by rw[ae.de];rfl,?_⟩;rw[aD (x:=(deep:Int)+1) (by omega) (by omega)];refine(I .sh l[k].conds eb (deep+1) (by omega) C (by omega)).call ?_;rintro _ ⟨r,rfl,Qn,Y⟩;refine⟨_,rfl,?_⟩;dsimp only;rw[aD (x:=(1:Int)+_) (by omega) (by omega),aD (x:=(m:Int)+_) (by omega) (by omega)];refine H (by omega) _ _ ⟨m+1+r,by omega,by omega,by omega,λy=>?_⟩;rw[dw A,L,Y (by omega)];omega
    .have i:=of_decide_eq_false i;exact⟨m,rfl,w,λy=>by omega⟩
    .have e:=of_decide_eq_false e;simp only[length_map]at e;rw[Ve (by omega)]at j;exact⟨m,rfl,w,j⟩
   .rintro _ u ⟨m,rfl,w,j⟩;rw[aD (by omega) (by omega)];by_cases G:(eb:Int)+1<(m:Int)
    .rw[if_pos G];exact⟨eb+1,rfl,by omega,λh=>by omega⟩
    .rw[if_neg G];exact⟨m,rfl,by omega,j⟩
def zA(fl:Fl)(l:List Test)(y:l.length<=1000000):av prog 63 [.list 6 fl (l.map Test.pv)] λp=>∃q:Bool,p=pB q/\(q=false->∀t∈l,oW t):=by
 refine av.of (ow.c ?_);refine ak.each (n:=l.length) (by omega) (λk u=>∀t∈l.take k,oW t) (by simp) ?_ ?_
 .intro k u next g i x
  have yes:∃q:Bool,wk (pB true)=pB q/\(q=false->∀t∈l,oW t):=⟨true,rfl,λh=>by cases h⟩;refine ab.t (by simpa using g) ⟨by omega,_,aA g,_,_,rfl,ab.mk (λ_=>yes) (λj=>⟨by omega,_,aA g,_,rfl,ab.mk (λ_=>yes) (λw=>⟨by omega,_,aA g,_,rfl,ab.mk (λ_=>yes) (λr=>x _ ?_)⟩)⟩)⟩;have j:=of_decide_eq_false j;have w:=of_decide_eq_false w;have r:=of_decide_eq_false r;simp only[length_map]at j;intro t e;rw[take_add_one,getElem?_eq_getElem g,mem_append]at e;rcases e with e|e
  .exact i t e
  .simp only[toList_some,List.mem_singleton]at e;subst e;exact⟨by omega,by omega,by omega⟩
 .intro u next i
  rw[take_length]at i;exact ab.f (by simp) ⟨false,rfl,λ_=>i⟩
def Jv:∀(n:Nat) (fl:Fl) (l:List ae),ah l<=n->ah l<=1000000->av prog 26 [.list 7 fl (l.map ae.pv)] λp=>∃q:Bool,p=pB q/\(q=false->bO l):=by
 intro n;induction n with
 |zero=>
  intro fl l h _;have:l=[]:=by
   cases l with
   |nil=>rfl
   |cons c l=>simp[ah,bN]at h
  subst this;refine av.of (iE.c ?_);exact ak.each (n:=0) (by omega) (λk u=>True) trivial (λk u next e=>by omega) (λu next _=>ab.f (by simp) ⟨false,rfl,λ_=>trivial⟩)
 |succ n x=>
  intro fl l h Y;refine av.of (iE.c ?_);have J:=cz l;refine ak.each (n:=l.length) (by omega) (λk u=>∀c∈l.take k,cU c) (by simp) ?_ ?_
  .intro k u next e g G
   have U:=di (getElem_mem e);have yes:∃q:Bool,wk (pB true)=pB q/\(q=false->bO l):=⟨true,rfl,λh=>by cases h⟩;refine ab.t (by simpa using e) ⟨by omega,_,aA e,_,_,_,_,_,_,_,_,_,_,by rw[ae.de];rfl,ab.mk (λ_=>yes) (λw=>ab.mk (λ_=>yes) (λr=>ab.mk (λ_=>yes) (λj=>?_)))⟩;have w:=of_decide_eq_false w;have r:=of_decide_eq_false r;have j:=of_decide_eq_false j;simp only[length_map]at r j;refine(zA .sh l[k].attr (by omega)).call ?_;rintro _ ⟨Q,rfl,i⟩;refine⟨_,rfl,ab.mk (λ_=>yes) (λC=>(zA .sh l[k].value (by omega)).call ?_)⟩;rintro _ ⟨O,rfl,H⟩;refine⟨_,rfl,ab.mk (λ_=>yes) (λA=>(x .sh l[k].conds (by omega) (by omega)).call ?_)⟩;rintro _ ⟨L,rfl,I⟩;refine⟨_,rfl,ab.mk (λ_=>yes) (λy=>G _ ?_)⟩;intro c hc;rw[take_add_one,getElem?_eq_getElem e,mem_append]at hc;rcases hc with hc|hc
   .exact g c hc
   .simp only[toList_some,List.mem_singleton]at hc;subst hc;exact(bJ _).2 ⟨by omega,by omega,by omega,i C,H A,I y⟩
  .intro u next g
   rw[take_length]at g;exact ab.f (by simp) ⟨false,rfl,λ_=>cG.2 g⟩
def Fb(v:Int)(n:Nat):Nat:=(if tmod v n<0 then tmod v n+n else tmod v n).toNat
theorem Tz(v:Int)(n:Nat)(h1:1<=n)(h2:n<=1000000):Pure prog 51 [pI v,pI (n:Nat)] (pI (Fb v n:Nat)):=by
 refine av.of (sG.c ?_);have hm:=Int.tmod_lt_of_pos v (show(0:Int)<(n:Int) by omega);have Ww:=Int.lt_tmod_of_pos v (show(0:Int)<(n:Int) by omega);refine ab.f (by simp;omega) ⟨by omega,ab.mk (λh=>?_) (λh=>?_)⟩
 .have h:=of_decide_eq_true h;rw[aD (by omega) (by omega)];simp only[wk,aP.cb,Fb];rw[if_pos h];congr 2;omega
 .have h:=of_decide_eq_false h;simp only[wk,aP.cb,Fb];rw[if_neg h];congr 2;omega
def PJ(f:Fl)(l:List Sym)(h:l.length<=1000000):Pure prog 196 [.list 3 f (l.map Sym.pv)] (.list 3 .sh (l.map Sym.pv)):=by
 refine av.of (mI.c ?_);exact aR.Qt (by trivial) (by simp;omega) (by simp;omega) λi e g=>rfl
def Cr(f:Fl)(l:List Test)(A:l.length<=1000000)(w:∀t∈l,t.list.length<=1000000):Pure prog 141 [.list 6 f (l.map Test.pv)] (.list 6 .sh (l.map Test.pv)):=by
 refine av.of (pC.c ?_);refine ak.cX (n:=l.length) (by omega) (λi x u=>x.2=(l.take i).map Test.pv/\mq x.1 i 6 u) ⟨rfl,trivial⟩ ?_ ?_
 .rintro i ⟨f,_⟩ u next g ⟨rfl,j⟩ y
  refine ab.t (by simpa using g) ⟨by omega,_,aA g,_,_,_,_,_,_,_,rfl,by omega,_,aA g,_,_,rfl,?_⟩;refine(PJ .sh l[i].list (w _ (getElem_mem g))).call ⟨_,_,rfl,?_⟩;have e:((l.take i).map Test.pv).length=i:=by rw[length_map,length_take];omega
  refine aR.Qt (by rw[e];exact j) (by rw[e];simp;omega) (by rw[e];simp;omega) λC r h=>y _ _ ⟨?_,?_⟩
  .rw[eZ g]
  .rw[e]at h;exact h
 .rintro⟨f,_⟩ u next ⟨rfl,j⟩
  refine ab.f (by simp) ?_;rw[take_length];rfl
def LU:∀(n:Nat) (f:Fl) (l:List ae),ah l<=n->ah l<=1000000->bO l->Pure prog 39 [.list 7 f (l.map ae.pv)] (.list 7 .sh (l.map ae.pv)):=by
 intro n;induction n with
 |zero=>
  intro f l h _ _;have:l=[]:=by
   cases l with
   |nil=>rfl
   |cons c l=>simp[ah,bN]at h
  subst this;refine av.of (ja.c ?_);exact ak.cX (n:=0) (by omega) (λ_ x _=>x.2=[]) rfl (λk x u next Y=>by omega) (λx u next H=>ab.f (by simp) (by rw[H];rfl))
 |succ n G=>
  intro f l h h6 j;have O:=cz l;refine av.of (ja.c ?_);refine ak.cX (n:=l.length) (by omega) (λi x u=>x.2=(l.take i).map ae.pv/\mq x.1 i 7 u) ⟨rfl,trivial⟩ ?_ ?_
  .rintro i ⟨f,_⟩ u next g ⟨rfl,y⟩ I
   have U:=di (getElem_mem g);obtain⟨_,ha,Q,L,J,C⟩:=(bJ _).1 (cG.1 j _ (getElem_mem g));refine ab.t (by simpa using g) ⟨by omega,_,aA g,_,_,_,_,_,_,_,_,_,_,jT _,?_⟩;refine Pure.call (r:=.agg l[i].pv) (av.of (qm.c ?_)) ?_
   .refine(Cr .sh _ (by omega) (cD L)).call ⟨_,_,rfl,(Cr .sh _ (by omega) (cD J)).call ⟨_,_,rfl,(G .sh _ (by omega) (by omega) C).call ⟨_,_,rfl,?_⟩⟩⟩;rw[ae.de];rfl
   .rw[ae.de];refine⟨_,_,_,_,_,_,_,_,_,_,rfl,?_⟩;have e:((l.take i).map ae.pv).length=i:=by rw[length_map,length_take];omega
    refine aR.Qt (by rw[e];exact y) (by rw[e];simp;omega) (by rw[e];simp;omega) λf1 A w=>I _ _ ⟨?_,?_⟩
    .rw[eZ g,ae.de l[i]]
    .rw[e]at w;exact w
  .rintro⟨f,_⟩ u next ⟨rfl,y⟩
   refine ab.f (by simp) ?_;rw[take_length];rfl
def bQ(g:FuncId)(e:List PV)(h:Prop):Prop:=av prog g e λp=>∃q:Bool,p=pB q/\(q=true↔h)
def bQ.call{g:FuncId}{i:List PV}{j:Prop}(h:bQ g i j){r:Mem}{K:Kq}(x:j->K (pB true) r)(y:¬j->K (pB false) r):aa prog g i r K:=av.call h λp ⟨q,e,w⟩=>by
 subst e;cases q with
 |true=>exact x (w.1 rfl)
 |false=>exact y λh=>by have:=w.2 h;cases this
def bQ.yes{e:Prop}(h:e):∃q:Bool,wk (pB true)=pB q/\(q=true↔e):=⟨true,rfl,λ_=>h,λ_=>rfl⟩
def bQ.no{e:Prop}(h:¬e):∃q:Bool,wk (pB false)=pB q/\(q=true↔e):=⟨false,rfl,(λh=>by cases h),λg=>absurd g h⟩
def iX{T:Type}{l m:List T}{n:Nat}{g:(Int->Mem->Prop)->Int->Mem->Prop}{u:Mem}(C:l.length=n)(A:m.length=n)(i:n<9223372036854775808)
  (w:∀(k:Nat) (j:k<l.length) (G:k<m.length) (u:Mem) (next:Int->Mem->Prop),(l[k]=m[k]->∀u',next (wrap .i64 ((k:Int)+1)) u')->(l[k]≠m[k]->l≠m)->g next (k:Int) u) (r:∀(u:Mem) (next:Int->Mem->Prop),l=m->g next (n:Int) u):ak g 0 u:=by
 refine ak.each (n:=n) i (λk u=>l.take k=m.take k) (by simp) ?_ ?_
 .intro k u next j h x
  refine w k (by omega) (by omega) u next (λe u'=>x u' ?_) (λy e=>y ?_)
  .rw[take_add_one,take_add_one,h,getElem?_eq_getElem (by omega),getElem?_eq_getElem (by omega),e]
  .subst e;rfl
 .intro u next h
  rw[List.take_of_length_le (by omega),List.take_of_length_le (by omega)]at h;exact r u next h
def pM{T:Type}{l m:List T}{pv:T->List PV}(h:((((l.map pv).length:Nat):Int) != (((m.map pv).length:Nat):Int))=true):l≠m:=λe=>by subst e;simp at h
def ng{T:Type}{l m:List T}{pv:T->List PV}(h:((((l.map pv).length:Nat):Int) != (((m.map pv).length:Nat):Int))=false):m.length=l.length:=by simp at h;omega
def adi(f g:Fl)(l m:List Sym)(y:l.length<=1000000000):bQ 241 [.list 3 f (l.map Sym.pv),.list 3 g (m.map Sym.pv)] (l=m):=by
 refine av.of (wV.c (ab.mk (λh=>bQ.no (pM h)) (λh=>?_)));refine iX (l:=l) (m:=m) (n:=l.length) rfl (ng h) (by omega) (λk i x u next r w=>?_) (λu next e=>ab.f (by simp) (bQ.yes e));refine ab.t (by simpa using i) ⟨by omega,_,aA i,_,_,_,rfl,by omega,_,aA x,_,_,_,rfl,ab.mk (λh=>bQ.no (w λe=>?_)) (λh=>r (cH.1 (nt h)) _)⟩;have j:fu l[k] m[k]=false:=nb h;rw[cH.2 e]at j;cases j
def Fk{a b:Test}(i:a.rel=b.rel)(h:a.var=b.var)(g:a.sym=b.sym)(e:a.list=b.list):a=b:=by cases a;cases b;simp_all
def Rq(f g:Fl)(l m:List Test)(H:l.length<=1000000000)(C:∀t∈l,t.list.length<=1000000000):bQ 205 [.list 6 f (l.map Test.pv),.list 6 g (m.map Test.pv)] (l=m):=by
 refine av.of (uT.c (ab.mk (λh=>bQ.no (pM h)) (λh=>?_)));refine iX (l:=l) (m:=m) (n:=l.length) rfl (ng h) (by omega) (λk i x u next A w=>?_) (λu next e=>ab.f (by simp) (bQ.yes e));refine ab.t (by simpa using i) ⟨by omega,_,aA i,_,rfl,by omega,_,aA x,_,rfl,ab.mk (λr=>bQ.no (w λe=>?_)) (λr=>⟨by omega,_,aA i,_,rfl,by omega,_,aA x,_,rfl,ab.mk (λj=>bQ.no (w λe=>?_)) (λj=>⟨by omega,_,aA i,_,_,_,rfl,by omega,_,aA x,_,_,_,rfl,ab.mk (λy=>bQ.no (w λe=>?_)) (λy=>⟨by omega,_,aA i,_,_,rfl,by omega,_,aA x,_,_,rfl,?_⟩)⟩)⟩)⟩
 .rw[e]at r;simp at r
 .rw[e,fH]at j;cases j
 .have:=nb y;rw[show((l[k].sym.k == m[k].sym.k)&&(aG l[k].sym.t m[k].sym.t&&((l[k].sym.n == m[k].sym.n)&&true)))=true from cH.2 (by rw[e])]at this;cases this
 .refine(adi _ _ l[k].list m[k].list (C _ (getElem_mem i))).call (λe=>⟨_,rfl,ab.f rfl (A (Fk (by simpa using r) (bM.1 (nt j)) (cH.1 (nt y)) e) _)⟩) (λG=>⟨_,rfl,ab.t rfl (bQ.no (w λe=>G (by rw[e])))⟩)
def Aw{a b:ae}(w:a.kind=b.kind)(r:a.goal=b.goal)(j:a.id=b.id)(i:a.attr=b.attr)(h:a.value=b.value)(g:a.acc=b.acc)(e:a.conds=b.conds):a=b:=by
 cases a;cases b;simp_all [ae.kind,ae.goal,ae.id,ae.attr,ae.value,ae.acc,ae.conds]
def ZA(n:Nat)(y:∀(f g:Fl) (l m:List ae),ah l<=n->ah l<=1000000->bO l->bQ 102 [.list 7 f (l.map ae.pv),.list 7 g (m.map ae.pv)] (l=m))(c d:ae)(A:ah c.conds<=n)(G:ah c.conds<=1000000)(C:cU c):bQ 153 [.agg [pI c.kind,pB c.goal,pS c.id,.list 6 .sh (c.attr.map Test.pv),.list 6 .sh (c.value.map Test.pv),pB c.acc,.list 7 .sh (c.conds.map ae.pv)],.agg [pI d.kind,pB d.goal,pS d.id,.list 6 .sh (d.attr.map Test.pv),.list 6 .sh (d.value.map Test.pv),pB d.acc,.list 7 .sh (d.conds.map ae.pv)]] (c=d):=by
 obtain⟨_,l1,Y,x,w,r⟩:=(bJ c).1 C;refine av.of (wY.c ?_);refine ab.mk (λL=>ab.mk (λJ=>ab.mk (λI=>ab.mk (λH=>?_) (λh=>bQ.no λe=>?_)) (λh=>bQ.no λe=>?_)) (λh=>bQ.no λe=>?_)) (λh=>bQ.no λe=>?_)
 .refine(Rq _ _ c.attr d.attr (by omega) (λt j=>by have:=cD x t j;omega)).call (λU=>⟨_,rfl,ab.t rfl ?_⟩) (λi=>⟨_,rfl,ab.f rfl (bQ.no λe=>i (by rw[e]))⟩);refine(Rq _ _ c.value d.value (by omega) (λt j=>by have:=cD w t j;omega)).call (λQ=>⟨_,rfl,ab.t rfl ?_⟩) (λi=>⟨_,rfl,ab.f rfl (bQ.no λe=>i (by rw[e]))⟩);refine(y .sh .sh c.conds d.conds A G r).call (λO=>⟨_,rfl,bQ.yes (Aw (by simpa using L) (by simpa using J) (bM.1 I) U Q (by simpa using H) O)⟩) (λi=>⟨_,rfl,bQ.no λe=>i (by rw[e])⟩)
 .subst e;simp at h
 .subst e;rw[fH]at h;cases h
 .subst e;simp at h
 .subst e;simp at h
def Zz:∀(n:Nat) (f g:Fl) (l m:List ae),ah l<=n->ah l<=1000000->bO l->bQ 102 [.list 7 f (l.map ae.pv),.list 7 g (m.map ae.pv)] (l=m):=by
 intro n;induction n with
 |zero=>
  intro f g l m h _ _;have:l=[]:=by
   cases l with
   |nil=>rfl
   |cons c l=>simp[ah,bN]at h
  subst this;refine av.of (mz.c (ab.mk (λh=>bQ.no (pM h)) (λh=>?_)));refine iX (l:=[]) (m:=m) (n:=0) rfl (ng h) (by omega) (λk i=>by simp at i) (λu next e=>ab.f (by simp) (bQ.yes e))
 |succ n j=>
  intro f g l m h H w;have C:=cz l;refine av.of (mz.c (ab.mk (λh=>bQ.no (pM h)) (λh=>?_)));refine iX (l:=l) (m:=m) (n:=l.length) rfl (ng h) (by omega) (λk i y u next r x=>?_) (λu next e=>ab.f (by simp) (bQ.yes e));have G:=di (getElem_mem i);refine ab.t (by simpa using i) ⟨by omega,_,aA i,_,_,_,_,_,_,_,_,_,_,jT _,by omega,_,aA y,_,_,_,_,_,_,_,_,_,_,jT _,?_⟩;refine(ZA n j l[k] m[k] (by omega) (by omega) (cG.1 w _ (getElem_mem i))).call (λe=>⟨_,rfl,ab.f rfl (r e _)⟩) (λA=>⟨_,rfl,ab.t rfl (bQ.no (x A))⟩)
def abc(f:Fl)(l:List aj)(n:Nat)(g:n<=1000000):av prog 27 [.list 12 f (l.map aj.pv),pI (n:Nat)] λp=>∃q:Bool,p=pB q/\(q=true->l.length<=n):=by
 refine av.of (sE.c (ab.mk (λh=>⟨false,rfl,λh=>by cases h⟩) (λh=>?_)));have i:l.length<=n:=by simpa using h
 refine ak.each (n:=l.length) (by omega) (λ_ _=>True) trivial (λk u next e _ j=>?_) (λu next _=>ab.f (by simp) ⟨true,rfl,λ_=>i⟩);refine ab.t (by simpa using e) ⟨by omega,_,aA e,_,rfl,ab.mk (λ_=>⟨false,rfl,λh=>by cases h⟩) (λ_=>⟨by omega,_,aA e,_,rfl,ab.mk (λ_=>⟨false,rfl,λh=>by cases h⟩) (λ_=>⟨by omega,_,aA e,_,rfl,ab.mk (λ_=>⟨false,rfl,λh=>by cases h⟩) (λ_=>j _ trivial)⟩)⟩)⟩
def Xi(f:Fl)(l:List aj)(n:Nat)(g:n<=1000000):av prog 6 [.list 12 f (l.map aj.pv),pI (n:Nat)] λp=>∃q:Bool,p=pB q/\(q=true->l.length<=n):=by
 refine av.of (sF.c ?_);exact(abc f l n g).call λp ⟨q,e,h⟩=>⟨q,e,q,rfl,h⟩
def FJ(f g:Fl)(l m:List Test)(hl:l.length<=1000000)(Q:∀t∈l,t.list.length<=1000000):bQ 161 [.list 6 f (l.map Test.pv),.list 6 g (m.map Test.pv)] (l=m):=by
 refine av.of (Hm.c (ab.mk (λh=>bQ.no (pM h)) (λh=>?_)));refine iX (l:=l) (m:=m) (n:=l.length) rfl (ng h) (by omega) (λk y Y u next O r=>?_) (λu next e=>ab.f (by simp) (bQ.yes e));refine ab.t (by simpa using y) ⟨by omega,_,aA y,_,_,_,_,_,_,_,rfl,by omega,_,aA Y,_,_,_,_,_,_,_,rfl,ab.mk (λx=>bQ.no (r λe=>?_)) (λx=>ab.mk (λw=>bQ.no (r λe=>?_)) (λw=>ab.mk (λG=>bQ.no (r λe=>?_)) (λG=>ab.mk (λC=>bQ.no (r λe=>?_)) (λC=>?_))))⟩
 .rw[e]at x;simp at x
 .rw[e,fH]at w;cases w
 .have j:fu l[k].sym m[k].sym=false:=nb G;rw[cH.2 (by rw[e])]at j;cases j
 .exact absurd (by rw[e]) (pM C)
 .have Gk:=Q _ (getElem_mem y);refine iX (l:=l[k].list) (m:=m[k].list) (n:=l[k].list.length) rfl (ng C) (by omega) (λi H J I L Ni Sx=>?_) (λI L e=>ab.f (by simp) (O (Fk (by simpa using x) (bM.1 (nt w)) (cH.1 (nt G)) e) _));refine ab.t (by simpa using H) ⟨by omega,_,aA H,_,_,_,rfl,by omega,_,aA J,_,_,_,rfl,ab.mk (λA=>bQ.no (r λe=>Sx (λU=>?_) (by rw[e]))) (λA=>Ni (cH.1 (nt A)) _)⟩;have j:fu l[k].list[i] m[k].list[i]=false:=nb A;rw[cH.2 U]at j;cases j
def adf:∀(n:Nat) (fa fv fc U O Q:Fl) (c d:ae),ah c.conds<=n->ah c.conds<=1000000->cU c->
  bQ 111 [.agg [pI c.kind,pB c.goal,pS c.id,.list 6 fa (c.attr.map Test.pv),.list 6 fv (c.value.map Test.pv),pB c.acc,.list 7 fc (c.conds.map ae.pv)],.agg [pI d.kind,pB d.goal,pS d.id,.list 6 U (d.attr.map Test.pv),.list 6 O (d.value.map Test.pv),pB d.acc,.list 7 Q (d.conds.map ae.pv)]] (c=d):=by
 intro n;induction n with
 |zero=>
  intro fa fv fc U O Q c d L h6 A;obtain⟨_,l1,l2,y,w,l5⟩:=(bJ c).1 A;have r:c.conds=[]:=by
   cases hc:c.conds with
   |nil=>rfl
   |cons x l=>rw[hc]at L;simp[ah,bN]at L
  refine av.of (zF.c ?_);refine ab.mk (λh=>bQ.no λe=>?_) (λJ=>ab.mk (λh=>bQ.no λe=>?_) (λI=>ab.mk (λh=>bQ.no λe=>?_) (λH=>ab.mk (λh=>bQ.no λe=>?_) (λG=>ab.mk (λh=>bQ.no λe=>?_) (λC=>?_)))))
  .subst e;simp at h
  .subst e;simp at h
  .subst e;rw[fH]at h;cases h
  .subst e;simp at h
  .subst e;simp at h
  .refine(FJ _ _ c.attr d.attr (by omega) (λt i=>by have:=cD y t i;omega)).call (λe1=>⟨_,rfl,ab.f rfl ?_⟩) (λg=>⟨_,rfl,ab.t rfl (bQ.no λe=>g (by rw[e]))⟩);refine(FJ _ _ c.value d.value (by omega) (λt i=>by have:=cD w t i;omega)).call (λY=>⟨_,rfl,ab.f rfl ?_⟩) (λg=>⟨_,rfl,ab.t rfl (bQ.no λe=>g (by rw[e]))⟩);refine iX (l:=c.conds) (m:=d.conds) (n:=0) (by rw[r];rfl) (by have:=ng C;rw[r]at this;exact this) (by omega) (λk j=>by rw[r]at j;simp at j) (λu next e=>?_);refine ab.f (by rw[r];simp) (bQ.yes (Aw (by simpa using J) (by simpa using I) (bM.1 (nt H)) e1 Y (by simpa using G) e))
 |succ n ih=>
  intro fa fv fc U O Q c d L h6 A;obtain⟨_,l1,l2,y,w,l5⟩:=(bJ c).1 A;have se:=cz c.conds;refine av.of (zF.c ?_);refine ab.mk (λh=>bQ.no λe=>?_) (λJ=>ab.mk (λh=>bQ.no λe=>?_) (λI=>ab.mk (λh=>bQ.no λe=>?_) (λH=>ab.mk (λh=>bQ.no λe=>?_) (λG=>ab.mk (λh=>bQ.no λe=>?_) (λC=>?_)))))
  .subst e;simp at h
  .subst e;simp at h
  .subst e;rw[fH]at h;cases h
  .subst e;simp at h
  .subst e;simp at h
  .refine(FJ _ _ c.attr d.attr (by omega) (λt i=>by have:=cD y t i;omega)).call (λe1=>⟨_,rfl,ab.f rfl ?_⟩) (λg=>⟨_,rfl,ab.t rfl (bQ.no λe=>g (by rw[e]))⟩);refine(FJ _ _ c.value d.value (by omega) (λt i=>by have:=cD w t i;omega)).call (λY=>⟨_,rfl,ab.f rfl ?_⟩) (λg=>⟨_,rfl,ab.t rfl (bQ.no λe=>g (by rw[e]))⟩);refine iX (l:=c.conds) (m:=d.conds) (n:=c.conds.length) rfl (ng C) (by omega) (λk j bZ u next hy cM=>?_) (λu next e=>ab.f (by simp) (bQ.yes (Aw (by simpa using J) (by simpa using I) (bM.1 (nt H)) e1 Y (by simpa using G) e)));have hm:=di (getElem_mem j);refine ab.t (by simpa using j) ⟨by omega,_,aA j,_,_,_,_,_,_,_,_,_,_,jT _,by omega,_,aA bZ,_,_,_,_,_,_,_,_,_,_,jT _,?_⟩;refine(ih .sh .sh .sh .sh .sh .sh c.conds[k] d.conds[k] (by omega) (by omega) (cG.1 l5 _ (getElem_mem j))).call (λe=>⟨_,rfl,ab.f rfl (hy e _)⟩) (λg=>⟨_,rfl,ab.t rfl (bQ.no λe=>cM g (by rw[e]))⟩)
def Ro(f:Fl)(l:List Test)(O:l.length<=1000000)(r:∀t∈l,t.list.length<=1000000):Pure prog 162 [.list 6 f (l.map Test.pv)] (.list 6 .sh (l.map Test.pv)):=by
 refine av.of (Hk.c ?_);refine ak.cX (n:=l.length) (by omega) (λi x u=>x.2=(l.take i).map Test.pv/\Ow [eX x.1 i 6] u) ⟨rfl,Ow.nil (L:=[]) trivial (.inl rfl)⟩ ?_ ?_
 .rintro i ⟨f,_⟩ u next g ⟨rfl,h⟩ H
  have j:=r _ (getElem_mem g);refine ab.t (by simpa using g) ⟨by omega,_,aA g,_,_,_,_,_,_,_,rfl,?_⟩;have e:((l.take i).map Test.pv).length=i:=by rw[length_map,length_take];omega
  have w:Ow [eX .nil 0 3,eX f i 6] u:=h.nil (.inl rfl);refine w.app (by simp) (by simp;omega) (by simp;omega) λG J A=>?_;refine(A.swap).app (by rw[e]) (by simp;omega) (by simp;omega) λC I y=>H _ _ ⟨?_,?_⟩
  .rw[eZ g];rfl
  .exact y.tail (L':=[]) λ_ _=>trivial
 .rintro⟨f,_⟩ u next ⟨rfl,h⟩
  refine ab.f (by simp) ?_;rw[take_length];rfl
def Zw:∀(n:Nat) (f:Fl) (l:List ae),ah l<=n->ah l<=1000000->bO l->Pure prog 109 [.list 7 f (l.map ae.pv)] (.list 7 .sh (l.map ae.pv)):=by
 intro n;induction n with
 |zero=>
  intro f l h _ _;have:l=[]:=by
   cases l with
   |nil=>rfl
   |cons c l=>simp[ah,bN]at h
  subst this;refine av.of (wL.c ?_);exact ak.cX (n:=0) (by omega) (λ_ x _=>x.2=[]) rfl (λk x u next Y=>by omega) (λx u next H=>ab.f (by simp) (by rw[H];rfl))
 |succ n G=>
  intro f l h h6 j;have O:=cz l;refine av.of (wL.c ?_);refine ak.cX (n:=l.length) (by omega) (λi x u=>x.2=(l.take i).map ae.pv/\mq x.1 i 7 u) ⟨rfl,trivial⟩ ?_ ?_
  .rintro i ⟨f,_⟩ u next g ⟨rfl,y⟩ I
   have U:=di (getElem_mem g);obtain⟨_,ha,Q,L,J,C⟩:=(bJ _).1 (cG.1 j _ (getElem_mem g));refine ab.t (by simpa using g) ⟨by omega,_,aA g,_,_,_,_,_,_,_,_,_,_,jT _,?_⟩;refine Pure.call (r:=.agg l[i].pv) (av.of (DG.c ?_)) ?_
   .refine(Ro .sh _ (by omega) (cD L)).call ⟨_,_,rfl,(Ro .sh _ (by omega) (cD J)).call ⟨_,_,rfl,(G .sh _ (by omega) (by omega) C).call ⟨_,_,rfl,?_⟩⟩⟩;rw[ae.de];rfl
   .rw[ae.de];refine⟨_,_,_,_,_,_,_,_,_,_,rfl,?_⟩;have e:((l.take i).map ae.pv).length=i:=by rw[length_map,length_take];omega
    refine aR.Qt (by rw[e];exact y) (by rw[e];simp;omega) (by rw[e];simp;omega) λf1 A w=>I _ _ ⟨?_,?_⟩
    .rw[eZ g,ae.de l[i]]
    .rw[e]at w;exact w
  .rintro⟨f,_⟩ u next ⟨rfl,y⟩
   refine ab.f (by simp) ?_;rw[take_length];rfl
def adg(fc fa:Fl)(p:Prod)(g:ah p.conds<=1000000)(h:bO p.conds)(ha:p.bd.length<=1000000):Pure prog 62 [.agg [pS p.name,.list 7 fc (p.conds.map ae.pv),.list 19 fa (p.bd.map cI.pv)]] (.agg p.pv):=by
 refine av.of (JX.c ?_);refine(Zw _ _ _ (Nat.le_refl _) g h).q ⟨_,_,rfl,?_⟩;exact aR.Qt (by trivial) (by simp;omega) (by simp;omega) λj e i=>rfl
end Go.Proofs.YthaeiehophlooaaGreat
namespace Go.aP
open Go.RowKit
def holds(rel:Int)(a b:Sym):Bool:=
 bif rel == 1 then fu a b else bif rel == 2 then !fu a b else
 bif rel == 3 then(a.k == 2&&b.k == 2)&&decide (a.n<b.n)else bif rel == 4 then(a.k == 2&&b.k == 2)&&decide (a.n<=b.n)else
 bif rel == 5 then(a.k == 2&&b.k == 2)&&decide (a.n>b.n)else bif rel == 6 then(a.k == 2&&b.k == 2)&&decide (a.n>=b.n)else
 bif rel == 7 then a.k == b.k else false
def gz:List Bind->ByteArray->Option Sym
 |[],_=>none
 |b::l,v=>if aG b.v v=true then some b.s else gz l v
def zt(l r:List Bind)(v:ByteArray):gz (l++r) v=(gz l v).or (gz r v):=by
 induction l with
 |nil=>simp[gz]
 |cons b l e=>simp only[cons_append,gz];split<;>simp[e]
def yn{l:List Bind}{v:ByteArray}{k:Nat}(e:k<l.length)(h:gz (l.take k) v=none):gz (l.take (k+1)) v=if aG l[k].v v=true then some l[k].s else none:=by
 rw[take_add_one,zt,h,Option.none_or,getElem?_eq_getElem e];simp[gz]
def Jf{l:List Bind}{v:ByteArray}{k:Nat}(i:k<l.length)(h:gz (l.take k) v=none)(j:aG l[k].v v=true):gz l v=some l[k].s:=by
 have g:=yn i h;rw[if_pos j]at g;have e:=zt (l.take (k+1)) (l.drop (k+1)) v;rw[take_append_drop,g]at e;exact e
def met(t:Test)(s:Sym)(l:List Bind):Option (List Bind):=
 if t.rel=8 then(if t.list.any (λx=>fu x s)=true then some l else none)
 else if t.rel<1\/t.rel>7 then none
 else if t.var=⟨#[]⟩then(if holds t.rel s t.sym=true then some l else none)
 else match gz l t.var with
  |some x=>if holds t.rel s x=true then some l else none
  |none=>if t.rel=1 then some (l++[⟨t.var,s⟩])else none
def vJ{t:Test}{s:Sym}{l l':List Bind}(h:met t s l=some l'):l'.length<=l.length+1:=by
 unfold met at h
 (repeat' split at h)<;>cases h<;>simp
def gg:List Test->Sym->List Bind->Option (List Bind)
 |[],_,l=>some l
 |t::e,s,l=>(met t s l).bind (gg e s)
def zD(a b:List Test)(s:Sym)(l:List Bind):gg (a++b) s l=(gg a s l).bind (gg b s):=by
 induction a generalizing l with
 |nil=>rfl
 |cons t a g=>
  simp only[cons_append,gg];cases met t s l with
  |none=>rfl
  |some e=>exact g e
def r_{ts:List Test}{s:Sym}{l lk:List Bind}{k:Nat}(e:k<ts.length)(h:gg (ts.take k) s l=some lk):gg (ts.take (k+1)) s l=met ts[k] s lk:=by
 rw[take_add_one,zD,h,getElem?_eq_getElem e];simp only[toList_some,bind_some,gg];cases met ts[k] s lk<;>rfl
def yC{ts:List Test}{s:Sym}{l:List Bind}(k:Nat)(h:gg (ts.take k) s l=none):gg ts s l=none:=by
 have e:=zD (ts.take k) (ts.drop k) s l;rw[take_append_drop,h]at e;exact e
def oh{ts:List Test}{s:Sym}{l l':List Bind}(h:gg ts s l=some l'):l'.length<=l.length+ts.length:=by
 induction ts generalizing l with
 |nil=>simp only[gg,Option.some.injEq]at h;subst h;simp
 |cons t ts e=>
  simp only[gg,Option.bind_eq_some_iff]at h;obtain⟨j,i,g⟩:=h;have:=vJ i;have:=e g;simp only[length_cons];omega
@[reducible] def jI(v:ByteArray):Test:=⟨1,v,⟨0,⟨#[]⟩,0⟩,[]⟩
def dg(c:ae)(e:aj)(l:List Bind):Option (List Bind):=
 if(c.kind=1\/c.kind=2)/\(c.goal=true->e.goal=true)/\c.acc=e.acc then
  (met (jI c.id) e.id l).bind λh=>(gg c.attr e.attr h).bind λg=>gg c.value e.value g
 else none
def EN{c:ae}{e:aj}{l l':List Bind}(h:dg c e l=some l'):l'.length<=l.length+1+c.attr.length+c.value.length:=by
 unfold dg at h;split at h
 .simp only[Option.bind_eq_some_iff]at h;obtain⟨w,j,r,i,g⟩:=h;have:=vJ j;have:=oh i;have:=oh g;omega
 .cases h
def aY(c:ae)(l:List Bind)(es:List aj):List (aj×List Bind):=es.filterMap λe=>(dg c e l).map λr=>(e,r)
def oG{c:ae}{l:List Bind}{es:List aj}{k:Nat}(e:k<es.length):
  aY c l (es.take (k+1))=aY c l (es.take k)++((dg c es[k] l).map λr=>(es[k],r)).toList:=by
 unfold aY;rw[take_add_one,getElem?_eq_getElem e,List.filterMap_append];congr 1
def mP{c:ae}{l:List Bind}{es:List aj}(k:Nat):aY c l es=aY c l (es.take k)++aY c l (es.drop k):=by
 unfold aY;rw[<- List.filterMap_append,take_append_drop]
def QZ{c:ae}{l:List Bind}{es:List aj}{k:Nat}(i:k<es.length){r:List Bind}(h:dg c es[k] l=some r):
  ∃j:(aY c l (es.take k)).length<(aY c l es).length,(aY c l es)[(aY c l (es.take k)).length]'j=(es[k],r):=by
 have e:=mP (c:=c) (l:=l) (es:=es) (k+1);rw[oG i,h]at e;simp only[Option.map_some,toList_some,List.append_assoc,cons_append,List.nil_append]at e;have g:(aY c l (es.take k)).length<(aY c l es).length:=by rw[e];simp
 refine⟨g,?_⟩;have:(aY c l es)[(aY c l (es.take k)).length]?=some (es[k],r):=by
  rw[e,List.getElem?_append_right (Nat.le_refl _)];simp
 rw[getElem?_eq_getElem g]at this;exact Option.some.inj this
end Go.aP
namespace Go.Proofs.YthaeiehophlooaaGreat
open Go.Proofs.Tryz Go.aP Go.RowKit
def TV(rel:Int)(a b:Sym):Pure prog 257 [pI rel,.agg a.pv,.agg b.pv] (pB (holds rel a b)):=by
 refine av.of (Hc.c ?_);refine⟨λs u=>s=(a.k == 2&&b.k == 2),?_,?_⟩
 .exact ab.mk (λh=>by simp[h]) (λh=>by simp[h])
 .rintro s u rfl
  repeat' (refine ab.mk (λh=>?_) (λh=>?_))
  all_goals simp_all [holds,fu,wk,cb]
@[reducible] def afg:Option Sym->PV
 |some s=>.aB [.agg s.pv,pB true]
 |none=>.aB [.agg [pI 0,pS ⟨#[]⟩,pI 0],pB false]
theorem ko(fl:Fl)(l:List aP.Bind)(hn:l.length<=1000000)(v:ByteArray):Pure prog 177 [.list 4 fl (l.map Bind.pv),pS v] (afg (gz l v)):=by
 refine av.of (Mn.c ?_);refine ak.each (n:=l.length) (by omega) (λk u=>gz (l.take k) v=none) (by simp[gz]) ?_ ?_
 .intro k u next hk hg au
  refine ab.t (by simpa using hk) ⟨by omega,_,aA hk,_,_,_,_,rfl,ab.mk (λhe=>?_) (λhe=>?_)⟩
  .rw[Jf hk hg he];rfl
  .exact au _ (by rw[yn hk hg,he];rfl)
 .intro u next hg
  refine ab.f (by simp) ?_;rw[take_length]at hg;rw[hg];rfl
@[reducible] def ajI:Option (List aP.Bind)->PV
 |some l=>.aB [.list 4 .sh (l.map Bind.pv),pB true]
 |none=>.aB [.list 4 .sh [],pB false]
def yU(o:Option (List aP.Bind))(p:PV):Prop:=∃l:List aP.Bind,p=.aB [.list 4 .sh (l.map Bind.pv),pB o.isSome]/\∀l',o=some l'->l=l'
theorem TO(fl:Fl)(t:Test)(s:Sym)(l:List aP.Bind)(hn:l.length<=1000000)(ht:t.list.length<=1000000):av prog 224 [.agg t.pv,.agg s.pv,.list 4 fl (l.map Bind.pv)] (yU (met t s l)):=by
 refine av.of (Ml.c ?_);have no:met t s l=none->yU (met t s l) (wk (.aB [.list 4 .nil [],pB false])):=λh=>⟨[],by rw[h];rfl,λl' e=>by rw[h]at e;cases e⟩;have yes:∀{q:Bool},met t s l=(if q=true then some l else none)->yU (met t s l) (wk (.aB [.list 4 fl (l.map Bind.pv),pB q])):=λ{q} h=>by
  rw[h];cases q
  .exact⟨l,rfl,λl' e=>by cases e⟩
  .exact⟨l,rfl,λl' e=>by cases e;rfl⟩
 refine ab.mk (λh8=>?_) (λh8=>?_)
 .have h8:t.rel=8:=by simpa using h8
  have hm:met t s l=if t.list.any (λx=>fu x s)=true then some l else none:=by rw[met,if_pos h8]
  refine ak.each (n:=t.list.length) (by omega) (λk u=>(t.list.take k).any (λx=>fu x s)=false) (by simp) ?_ ?_
  .intro k u next hk hg au
   refine ab.t (by simpa using hk) ⟨by omega,_,aA hk,_,_,_,rfl,ab.mk (λhe=>?_) (λhe=>?_)⟩
   .exact yes (q:=true) (by rw[hm,Md (p:=λx=>fu x s) hk he])
   .exact au _ (by rw[Cy hk hg];exact he)
  .intro u next hg
   refine ab.f (by simp) (no ?_);rw[take_length]at hg;rw[hm,hg];rfl
 .have h8:¬t.rel=8:=by simpa using h8
  refine ab.mk (λh1=>no ?_) (λh1=>?_)
  .rw[met,if_neg h8,if_pos (.inl (by simpa using h1))]
  .refine ab.mk (λh7=>no ?_) (λh7=>?_)
   .rw[met,if_neg h8,if_pos (.inr (by simpa using h7))]
   .have hr:¬(t.rel<1\/t.rel>7):=by simp at h1 h7;omega
    refine ab.mk (λhv=>?_) (λhv=>?_)
    .refine(TV t.rel s t.sym).call ⟨_,rfl,yes ?_⟩;rw[met,if_neg h8,if_neg hr,if_pos (bM.1 hv)]
    .have hv:¬t.var=⟨#[]⟩:=qw.1 hv;refine(ko fl l hn t.var).call ?_;cases hg:gz l t.var with
     |some x=>
      refine⟨_,_,_,_,rfl,ab.t rfl ((TV t.rel s x).call ⟨_,rfl,yes ?_⟩)⟩;rw[met,if_neg h8,if_neg hr,if_neg hv,hg]
     |none=>
      refine⟨_,_,_,_,rfl,ab.f rfl (ab.mk (λh1=>no ?_) (λh1=>?_))⟩
      .have h1:¬t.rel=1:=by simpa using h1
       rw[met,if_neg h8,if_neg hr,if_neg hv,hg];simp[h1]
      .have h1:t.rel=1:=by simpa using h1
       refine⟨by omega,by omega,by omega,rfl,?_⟩;simp only[Int.toNat_zero,Int.toNat_natCast,take_length,List.drop_zero];refine aR.Qt (by trivial) (by simp;omega) (by simp;omega) λkA μ' _=>⟨l++[⟨t.var,s⟩],?_,λl' e=>?_⟩
       .rw[met,if_neg h8,if_neg hr,if_neg hv,hg];simp[h1,wk,cb,zG]
       .rw[met,if_neg h8,if_neg hr,if_neg hv,hg]at e;simp[h1]at e;exact e
theorem qc(fl kA:Fl)(ts:List Test)(s:Sym)(l:List aP.Bind)(hn:l.length+ts.length<=1000000)(ht:∀t∈ts,t.list.length<=1000000):av prog 225 [.list 6 fl (ts.map Test.pv),.agg s.pv,.list 4 kA (l.map Bind.pv)] (yU (gg ts s l)):=by
 refine av.of (Mm.c ?_);refine ak.cX (n:=ts.length) (by omega) (λk x u=>∃lk,gg (ts.take k) s l=some lk/\x.2=lk.map Bind.pv) ⟨l,rfl,rfl⟩ ?_ ?_
 .rintro k ⟨xf,xr⟩ u next hk ⟨lk,Gk,rfl⟩ au
  have hkb:=oh Gk;rw[length_take]at hkb;refine ab.t (by simpa using hk) ⟨by omega,_,aA hk,_,_,_,_,_,_,_,rfl,?_⟩;refine(TO xf ts[k] s lk (by omega) (ht _ (getElem_mem hk))).call ?_;rintro _ ⟨l',rfl,UM⟩;refine⟨_,_,_,rfl,?_⟩;cases hm:met ts[k] s lk with
  |none=>
   refine ab.t rfl ⟨[],?_,λl2 e=>?_⟩
   .rw[yC (k+1) (by rw[r_ hk Gk,hm])];rfl
   .rw[yC (k+1) (by rw[r_ hk Gk,hm])]at e;cases e
  |some l2=>
   have:=UM l2 hm;subst this;exact ab.f rfl (au (_,_) _ ⟨l',by rw[r_ hk Gk,hm],rfl⟩)
 .rintro⟨xf,xr⟩ u next ⟨lk,Gk,rfl⟩
  rw[take_length]at Gk;exact ab.f (by simp) ⟨lk,by rw[Gk];rfl,λl2 e=>by rw[Gk]at e;cases e;rfl⟩
theorem LN(fl:Fl)(l:List aP.Bind)(hn:l.length<=2000000):Pure prog 174 [.list 4 fl (l.map Bind.pv)] (.list 4 .sh (l.map Bind.pv)):=by
 refine av.of (Mk.c ?_);exact aR.Qt (by trivial) (by simp;omega) (by simp;omega) λkA μ' _=>rfl
theorem Ua(fa fv fc fl:Fl)(c:ae)(e:aj)(l:List aP.Bind)(hn:l.length+1+c.attr.length+c.value.length<=1000000)(ha:∀t∈c.attr,t.list.length<=1000000)(hv:∀t∈c.value,t.list.length<=1000000):
  Pure prog 176 [.agg [pI c.kind,pB c.goal,pS c.id,.list 6 fa (c.attr.map Test.pv),.list 6 fv (c.value.map Test.pv),pB c.acc,.list 7 fc (c.conds.map ae.pv)],.agg e.pv,.list 4 fl (l.map Bind.pv)] (ajI (dg c e l)):=by
 refine av.of (JQ.c ?_);refine⟨λ_ u=>((c.kind=1\/c.kind=2)/\(c.goal=true->e.goal=true)/\c.acc=e.acc),?_,?_⟩
 .repeat' (refine ab.mk (λh=>?_) (λh=>?_))
  all_goals first
   |(simp_all;done)
   |(rw[dg,if_neg (by simp_all)];rfl)
 .rintro _ u hc;rw[dg,if_pos hc];refine(TO fl (jI c.id) e.id l (by omega) (by simp)).call ?_;rintro _ ⟨l1,rfl,h1⟩;refine⟨_,_,_,rfl,?_⟩;cases hm:met (jI c.id) e.id l with
  |none=>exact ab.t rfl rfl
  |some l1'=>
   obtain rfl:=h1 l1' hm;have g1:=vJ hm;refine ab.f rfl ((qc fa _ c.attr e.attr l1 (by omega) ha).call ?_);rintro _ ⟨l2,rfl,h2⟩;refine⟨_,_,_,rfl,?_⟩;simp only[bind_some];cases sT:gg c.attr e.attr l1 with
   |none=>exact ab.t rfl rfl
   |some l2'=>
    obtain rfl:=h2 l2' sT;have g2:=oh sT;refine ab.f rfl ((qc fv _ c.value e.value l2 (by omega) hv).call ?_);rintro _ ⟨l3,rfl,h3⟩;refine⟨_,_,_,rfl,?_⟩;simp only[bind_some];cases Ym:gg c.value e.value l2 with
    |none=>exact ab.t rfl rfl
    |some l3'=>
     obtain rfl:=h3 l3' Ym;have g3:=oh Ym;exact ab.f rfl ((LN _ l3 (by omega)).call ⟨_,_,rfl,rfl⟩)
def Xf(rel:Int)(a b:Sym):Pure prog 270 [pI rel,.agg a.pv,.agg b.pv] (pB (holds rel a b)):=by
 refine av.of (sv.c ?_);refine⟨λs u=>s=(a.k == 2&&b.k == 2),?_,?_⟩
 .exact ab.mk (λh=>by simp[h]) (λh=>by simp[h])
 .rintro s u rfl
  repeat' (refine ab.mk (λh=>?_) (λh=>?_))
  all_goals simp_all [holds,fu,wk,cb]
theorem afs(fl:Fl)(l:List aP.Bind)(hn:l.length<=1000000)(v:ByteArray):Pure prog 268 [.list 4 fl (l.map Bind.pv),pS v] (afg (gz l v)):=by
 refine av.of (wQ.c ?_);refine ak.each (n:=l.length) (by omega) (λk u=>gz (l.take k) v=none) (by simp[gz]) ?_ ?_
 .intro k u next hk hg au
  refine ab.t (by simpa using hk) ⟨by omega,_,aA hk,_,rfl,ab.mk (λhe=>⟨by omega,_,aA hk,_,_,_,rfl,?_⟩) (λhe=>?_)⟩
  .rw[Jf hk hg he];rfl
  .exact au _ (by rw[yn hk hg,he];rfl)
 .intro u next hg
  refine ab.f (by simp) ?_;rw[take_length]at hg;rw[hg];rfl
def abx{fl:Fl}{new:Lq}{j:Mem}{size e:Nat}{K:Fl->Mem->Prop}(h:fl=.nil)(w:new.length*e<=140737488355328)(r:new.length<4611686018427387904)(hK:∀i g,Ow [eX i new.length size] g->K i g):aR true size e fl [] new j K:=by
 subst h;refine aR.Qt (h:=trivial) (by simpa using w) (by simpa using r) (λi g x=>hK i g (Ow.one ?_));simpa[eX]using x
theorem aa8(fl:Fl)(l:List aP.Bind)(hn:l.length<=1000000)(v:ByteArray)(s:Sym):Pure prog 269 [.list 4 fl (l.map Bind.pv),pS v,.agg s.pv] (.list 4 .sh ((l++[(⟨v,s⟩:aP.Bind)]).map Bind.pv)):=by
 refine av.of (uF.c ?_);have go:aR true 4 48 .nil [] (l.map Bind.pv) M0 λf8 u=>aR false 4 48 f8 ([]++l.map Bind.pv) [[pS v,pI s.k,pS s.t,pI s.n]] u λf13 rH=>wk (.list 4 f13 (([]++l.map Bind.pv)++[[pS v,pI s.k,pS s.t,pI s.n]]))=.list 4 .sh ((l++[(⟨v,s⟩:aP.Bind)]).map Bind.pv):=
  abx rfl (by simp;omega) (by simp;omega) λf8 u hO=>Ow.app hO (by simp) (by simp;omega) (by simp;omega) λf13 u1 _=>by simp[wk,cb]
 exact⟨go,go⟩
theorem YM(fl fl2:Fl)(t:Test)(s:Sym)(l:List aP.Bind)(hn:l.length<=1000000)(ht:t.list.length<=1000000):av prog 266 [.agg [pI t.rel,pS t.var,pI t.sym.k,pS t.sym.t,pI t.sym.n,.list 3 fl2 (t.list.map Sym.pv)],.agg s.pv,.list 4 fl (l.map Bind.pv)] (yU (met t s l)):=by
 refine av.of (wP.c ?_);have no:met t s l=none->yU (met t s l) (wk (.aB [.list 4 .nil [],pB false])):=λh=>⟨[],by rw[h];rfl,λl' e=>by rw[h]at e;cases e⟩;have yes:met t s l=some l->yU (met t s l) (wk (.aB [.list 4 fl (l.map Bind.pv),pB true])):=λh=>⟨l,by rw[h];rfl,λl' e=>by rw[h]at e;cases e;rfl⟩;refine ab.mk (λh8=>?_) (λh8=>?_)
 .have h8:t.rel=8:=by simpa using h8
  have hm:met t s l=if t.list.any (λx=>fu x s)=true then some l else none:=by rw[met,if_pos h8]
  refine ak.each (n:=t.list.length) (by omega) (λk u=>(t.list.take k).any (λx=>fu x s)=false) (by simp) ?_ ?_
  .intro k u next hk hg au
   refine ab.t (by simpa using hk) ⟨by omega,_,aA hk,_,_,_,rfl,ab.mk (λhe=>?_) (λhe=>?_)⟩
   .exact yes (by rw[hm,Md (p:=λx=>fu x s) hk he];rfl)
   .exact au _ (by rw[Cy hk hg];exact he)
  .intro u next hg
   rw[take_length]at hg;exact ab.f (by simp) (no (by rw[hm,hg];rfl))
 .have h8:t.rel≠8:=by simpa using h8
  refine ab.mk (λh1=>?_) (λh1=>ab.mk (λh7=>?_) (λh7=>?_))
  .have h1:t.rel<1:=by simpa using h1
   exact no (by rw[met,if_neg h8,if_pos (.inl h1)])
  .have h7:t.rel>7:=by simpa using h7
   exact no (by rw[met,if_neg h8,if_pos (.inr h7)])
  .have h17:¬(t.rel<1\/t.rel>7):=by simp at h1 h7;omega
   refine⟨λx u=>(t.var=⟨#[]⟩/\(⟨x.1,x.2.1,x.2.2⟩:Sym)=t.sym)\/(t.var≠⟨#[]⟩/\gz l t.var=some ⟨x.1,x.2.1,x.2.2⟩),?_,?_⟩
   .refine ab.mk (λhv=>?_) (λhv=>.inl ⟨bM.1 (by simpa using hv),rfl⟩);have hv:t.var≠⟨#[]⟩:=qw.1 (by simpa using hv);refine(afs fl l hn t.var).call ?_;cases hg:gz l t.var with
    |some x=>exact⟨_,_,_,_,rfl,ab.f rfl (.inr ⟨hv,rfl⟩)⟩
    |none=>
     refine⟨_,_,_,_,rfl,ab.t rfl (ab.mk (λhr=>?_) (λhr=>?_))⟩
     .have hr:t.rel≠1:=by simpa using hr
      exact no (by rw[met,if_neg h8,if_neg h17,if_neg hv,hg];exact if_neg hr)
     .have hr:t.rel=1:=by simpa using hr
      have hm:met t s l=some (l++[⟨t.var,s⟩]):=by rw[met,if_neg h8,if_neg h17,if_neg hv,hg];exact if_pos hr
      refine(aa8 fl l hn t.var s).call ⟨_,_,rfl,?_⟩;exact⟨_,by rw[hm];rfl,λl' e=>by rw[hm]at e;cases e;rfl⟩
   .rintro⟨x1,x2,x3⟩ u hx;have hm:met t s l=if holds t.rel s ⟨x1,x2,x3⟩=true then some l else none:=by
     rw[met,if_neg h8,if_neg h17];rcases hx with⟨hv,e⟩|⟨hv,e⟩
     .rw[if_pos hv,<- e]
     .rw[if_neg hv,e]
    refine(Xf t.rel s ⟨x1,x2,x3⟩).call ⟨_,rfl,ab.mk (λh=>?_) (λh=>?_)⟩
    .exact no (by rw[hm,if_neg (by simpa using h)])
    .exact yes (by rw[hm,if_pos (by simpa using h)])
theorem Js(fl kA:Fl)(ts:List Test)(s:Sym)(l:List aP.Bind)(hn:l.length+ts.length<=1000000)(ht:∀t∈ts,t.list.length<=1000000):av prog 267 [.list 6 fl (ts.map Test.pv),.agg s.pv,.list 4 kA (l.map Bind.pv)] (yU (gg ts s l)):=by
 refine av.of (su.c ?_);refine ak.cX (n:=ts.length) (by omega) (λk x u=>∃lk:List aP.Bind,x.2=lk.map Bind.pv/\gg (ts.take k) s l=some lk/\lk.length<=l.length+k) ⟨l,rfl,rfl,Nat.le_refl _⟩ ?_ ?_
 .rintro k ⟨f,_⟩ u next hk ⟨lk,rfl,Gk,hlen⟩ au
  have Ht:=r_ hk Gk;refine ab.t (by simpa using hk) ⟨by omega,_,aA hk,_,_,_,_,_,_,_,rfl,?_⟩;refine av.call (YM f .sh ts[k] s lk (by omega) (ht _ (getElem_mem hk))) λp hp=>?_;obtain⟨l2,rfl,h2⟩:=hp;refine⟨_,_,_,rfl,ab.mk (λh=>?_) (λh=>?_)⟩
  .have cM:met ts[k] s lk=none:=by
    cases hm:met ts[k] s lk with
    |none=>rfl
    |some r=>rw[hm]at h;simp at h
   have:gg ts s l=none:=yC (k+1) (by rw[Ht,cM]);exact⟨[],by rw[this];rfl,λl' e=>by rw[this]at e;cases e⟩
  .cases hm:met ts[k] s lk with
   |none=>rw[hm]at h;simp at h
   |some r=>
    have e:=h2 r hm;subst e;have:=vJ hm;exact au _ _ ⟨l2,rfl,by rw[Ht,hm],by omega⟩
 .rintro⟨f,_⟩ u next ⟨lk,rfl,Gk,_⟩
  rw[take_length]at Gk;exact ab.f (by simp) ⟨lk,by rw[Gk];rfl,λl' e=>by rw[Gk]at e;cases e;rfl⟩
theorem Xg(fa fv fc fl:Fl)(c:ae)(e:aj)(l:List aP.Bind)(hn:l.length+1+c.attr.length+c.value.length<=1000000)(ha:∀t∈c.attr,t.list.length<=1000000)(hv:∀t∈c.value,t.list.length<=1000000):
  av prog 261 [.agg [pI c.kind,pB c.goal,pS c.id,.list 6 fa (c.attr.map Test.pv),.list 6 fv (c.value.map Test.pv),pB c.acc,.list 7 fc (c.conds.map ae.pv)],.agg e.pv,.list 4 fl (l.map Bind.pv)] (yU (dg c e l)):=by
 refine av.of (uI.c ?_);have no:dg c e l=none->yU (dg c e l) (wk (.aB [.list 4 .nil [],pB false])):=λh=>⟨[],by rw[h];rfl,λl' e'=>by rw[h]at e';cases e'⟩;refine⟨λ_ u=>(c.kind=1\/c.kind=2)/\(c.goal=true->e.goal=true)/\c.acc=e.acc,?_,?_⟩
 .have rest:(c.kind=1\/c.kind=2)->∀u:Mem,ab c.goal
    (ab (!e.goal) (yU (dg c e l) (wk (.aB [.list 4 .nil [],pB false]))) (ab (!(c.acc == e.acc)) (yU (dg c e l) (wk (.aB [.list 4 .nil [],pB false]))) ((c.kind=1\/c.kind=2)/\(c.goal=true->e.goal=true)/\c.acc=e.acc)))
    (ab (!(c.acc == e.acc)) (yU (dg c e l) (wk (.aB [.list 4 .nil [],pB false]))) ((c.kind=1\/c.kind=2)/\(c.goal=true->e.goal=true)/\c.acc=e.acc)):=λhk u=>by
   refine ab.mk (λg=>ab.mk (λg2=>no ?_) (λg2=>ab.mk (λg3=>no ?_) (λg3=>⟨hk,λ_=>by simpa using g2,by simpa using g3⟩))) (λg=>ab.mk (λg3=>no ?_) (λg3=>⟨hk,(λh=>by rw[g]at h;cases h),by simpa using g3⟩))
   .rw[dg,if_neg];rintro⟨_,h,_⟩;simp[h g]at g2
   .rw[dg,if_neg];rintro⟨_,_,h⟩;simp[h]at g3
   .rw[dg,if_neg];rintro⟨_,_,h⟩;simp[h]at g3
  refine ab.mk (λk1=>ab.mk (λk2=>no ?_) (λk2=>rest (.inr (by simpa using k2)) M0)) (λk1=>rest (.inl (by simpa using k1)) M0);rw[dg,if_neg];rintro⟨h|h,_⟩
  .rw[h]at k1;simp at k1
  .rw[h]at k2;simp at k2
 .rintro _ u hc;have nu:dg c e l=(met (jI c.id) e.id l).bind λl1=>(gg c.attr e.attr l1).bind λl2=>gg c.value e.value l2:=if_pos hc;refine av.call (YM fl .sh (jI c.id) e.id l (by omega) (by simp)) λp hp=>?_;obtain⟨l1,rfl,h1⟩:=hp;refine⟨_,_,_,rfl,ab.mk (λh=>no ?_) (λh=>?_)⟩
  .cases hm:met (jI c.id) e.id l with
   |none=>rw[nu,hm];rfl
   |some r=>rw[hm]at h;simp at h
  .cases hm:met (jI c.id) e.id l with
   |none=>rw[hm]at h;simp at h
   |some r1=>
    have e1:=h1 r1 hm;subst e1;have zM:=vJ hm;refine av.call (Js fa .sh c.attr e.attr l1 (by omega) ha) λp hp=>?_;obtain⟨l2,rfl,h2⟩:=hp;refine⟨_,_,_,rfl,ab.mk (λh=>no ?_) (λh=>?_)⟩
    .cases sT:gg c.attr e.attr l1 with
     |none=>rw[nu,hm];show(gg c.attr e.attr l1).bind _=none;rw[sT];rfl
     |some r=>rw[sT]at h;simp at h
    .cases sT:gg c.attr e.attr l1 with
     |none=>rw[sT]at h;simp at h
     |some r2=>
      have e2:=h2 r2 sT;subst e2;have xv:=oh sT;have SM:dg c e l=gg c.value e.value l2:=by rw[nu,hm];show(gg c.attr e.attr l1).bind _=_;rw[sT];rfl
      refine av.call (Js fv .sh c.value e.value l2 (by omega) hv) λp hp=>?_;obtain⟨l3,rfl,h3⟩:=hp;exact⟨_,_,_,rfl,l3,by rw[SM];rfl,λl' e'=>h3 l' (by rw[<- SM];exact e')⟩
abbrev Cn(c:ae):List PV:=[pI c.kind,pB c.goal,pS c.id,.list 6 .sh (c.attr.map Test.pv),.list 6 .sh (c.value.map Test.pv),pB c.acc,.list 7 .sh (c.conds.map ae.pv)]
@[reducible] def Q_(c:ae)(l:List aP.Bind)(es:PV):PV:=.fn (.func 175) [] [.bt [es] 0,.bt (Cn c) 0,.bt [.list 4 .sh (l.map Bind.pv)] 0]
theorem TF(fe:Fn)(fa fb:List PV)(c:ae)(f1 f2 f3 fl:Fl)(l:List aP.Bind)(hn:l.length<=1000000):Pure prog 115 [.agg [pI c.kind,pB c.goal,pS c.id,.list 6 f1 (c.attr.map Test.pv),.list 6 f2 (c.value.map Test.pv),pB c.acc,.list 7 f3 (c.conds.map ae.pv)],.fn fe fa fb,.list 4 fl (l.map Bind.pv)] (Q_ c l (.fn fe fa fb)):=by
 refine aa.freeze (K:=λv μ'=>∃b5,v=.fn (.func 175) [] [.bt [.fn fe fa fb] 0,.bt (Cn c) 0,pP b5 0]/\μ' b5=some (.cells 121 [.list 4 .sh (l.map Bind.pv)])) (JO.c λb5 Yw=>?_) ?_
 .have O1:=(Ow.new (L:=[]) 121 [.list 4 fl (l.map Bind.pv)] trivial Yw);refine⟨_,_,O1.rd 0 rfl (by simp),(LN _ l (by omega)).call ⟨_,_,rfl,O1.st 0 rfl (by simp) λu2 O2=>⟨b5,rfl,O2.get 0 rfl⟩⟩⟩
 .rintro v μ' ⟨b5,rfl,hb⟩;refine⟨_,M0,[b5],λZ u r hg hr=>?_,λb o h=>(by cases h),rfl⟩;obtain⟨fv,cv,rfl,h1,h2⟩:=hr.ofFn;obtain⟨v1,_,rfl,_,q1,h2⟩:=h2.inv;obtain⟨v2,_,rfl,_,q2,h2⟩:=h2.inv;obtain⟨v3,_,rfl,_,q3,h2⟩:=h2.inv;obtain rfl:=h2.nq;obtain rfl:=h1.nq;have gs:aP.Good Z u (λx=>if x∈[b5]then μ' x else none):=hg.sub λx o hx=>by
   by_cases hm:x∈[b5]
   .simpa[hm]using hx
   .simp[hm]at hx
  have hle:=gP gs;exact br.Fg (br.nil _) (br.cons rfl (q1.mono hle) (br.cons rfl (q2.mono hle) (br.cons rfl (Te hg hb rfl q3) (br.nil _))))
@[reducible] def QY(x:aj×List aP.Bind):List PV:=[.agg x.1.pv,.list 4 .sh (x.2.map Bind.pv)]
theorem Re{c:ae}{l:List aP.Bind}{es:List aj}{fe:Fn}{fa fb:List PV}{A A':aO}(hs:iI prog (.fn fe fa fb) (es.map λe=>[.agg e.pv]) A A')(hn:l.length+1+c.attr.length+c.value.length<=1000000)(ha:∀t∈c.attr,t.list.length<=1000000)(hv:∀t∈c.value,t.list.length<=1000000):
  iI prog (Q_ c l (.fn fe fa fb)) ((aY c l es).map QY) A A':=by
 refine iI.mk λfy ya yb I S C μ hy hO h0 cV=>?_;show aa _ _ [.fn fy ya yb,.bt [.fn fe fa fb] 0,.bt (Cn c) 0,.bt [.list 4 .sh (l.map Bind.pv)] 0] _ _;refine Dy.c λb4 Pl=>⟨_,_,_,rfl,_,_,_,rfl,?_⟩;have O1:=hO.new 312 [.fn fy ya yb] Pl;refine bk.own hs O1.swap (λk u=>Ow [Pt b4 312 [.fn fy ya yb],I (aY c l (es.take k)).length] u) (λcd u=>cd=.ret/\Ow [S] u) (λk=>eW.own _) (λcd=>eW.and (eW.own _)) (λμ' h'=>?_) ?_ ?_ ?_
 .have h2:=h'.swap.tail h0;simpa[aY]using h2
 .intro k hk u R hI bT iR;have bZ:k<es.length:=by simpa using hk
  rw[List.getElem_map];have gF:=oG (c:=c) (l:=l) (es:=es) bZ;refine⟨_,_,_,_,_,_,_,_,_,_,_,_,rfl,_,_,_,_,_,_,_,_,_,_,rfl,_,_,rfl,?_⟩;refine(Ua .sh .sh .sh .sh c es[k] l hn ha hv).call ?_;cases hc:dg c es[k] l with
  |none=>
   refine⟨_,_,_,rfl,ab.f rfl (bT _ ?_)⟩;rw[gF,hc];simpa using hI
  |some r=>
   refine⟨_,_,_,rfl,ab.t rfl ⟨_,_,_,hI.rd 0 rfl (by simp),?_⟩⟩;obtain⟨hj,pR⟩:=QZ bZ hc;have Kj:(aY c l (es.take k)).length<((aY c l es).map QY).length:=by simpa using hj
   have fF:∀ν,I (aY c l (es.take k)).length ν->bP prog (.fn fy ya yb) [.agg es[k].pv,.list 4 .sh (r.map Bind.pv)] ν λv μ'=>(v=pB true/\Ow [I ((aY c l (es.take k)).length+1)] μ')\/(v=pB false/\Ow [S] μ'):=λν hν=>by
    have h:=cV _ Kj ν hν;rw[List.getElem_map,pR]at h;exact h
   refine Ow.Cp hI.swap fF λp u2 h3=>?_
   .rcases Ow.tt (A:=I ((aY c l (es.take k)).length+1)) (B:=S) h3 with⟨rfl,h4⟩|⟨rfl,h4⟩
    .refine⟨_,rfl,ab.f rfl (bT _ ?_)⟩;rw[gF,hc];simpa using h4.swap
    .exact⟨_,rfl,ab.t rfl (iR _ _ ⟨rfl,h4.swap.drop⟩)⟩
 .intro u hI;simp only[length_map]at hI |-;rw[take_length]at hI;exact .inl hI.drop
 .rintro cd u ⟨rfl,h⟩;exact .inr h
end Go.Proofs.YthaeiehophlooaaGreat
