import Derived.Test.YtbodiiomcfgokaaGreatB06
import Derived.Test.YtbodiiomcfgokaaGreatChecked
import Derived.KernelRfl
set_option linter.all false
namespace Go.Proofs.YtbodiiomcfgokaaGreat
open Go.Proofs.Tryz Go.aK
variable {u0:Mem} {K:Kq}
set_option maxRecDepth 100000
theorem gY.c{a:Int}{b j:Bool}{d:ByteArray}{f i l:Fl}{e g k:Lq}(h: aa prog 186 [.list 6 f e] u0 λv s=> ∃p o,v=(.list 6 p o)/\ aa prog 186 [.list 6 i g] s λw t=> ∃r q,w=(.list 6 r q)/\ aa prog 71 [.list 7 l k] t λx u=> ∃n m,x=(.list 7 n m)/\ K (.agg [pI a,pB b,pS d,.list 6 p o,.list 6 r q,pB j,.list 7 n m]) u):aa prog 127 [.agg [pI a,pB b,pS d,.list 6 f e,.list 6 i g,pB j,.list 7 l k]] u0 K:= VC [1,2] [] [] [] [] [] [] func127 h
theorem Ft.c{m:ByteArray}{j S:Fl}{i b:Lq}(h: aa prog 187 [pS m] u0 λa0 o=> ∃q,a0=(pB q)/\ ab (!q) (K (.aD [pI (-1),pI 2]) o) (bJ o 3 [pI 0] λd U=> stM d 0 [pI 0] U λV=> aa prog 188 [.list 7 j i,pI 0,pI 0,.fn (.func 189) [] [pP d 0]] V λa1 a=> ∃a4 a5,a1=(.aD [pI a4,pB a5])/\ ∃r,aB a d 0 1=some [pI r]/\ ab (decide (r<1)) (K (.aD [pI (-1),pI 7]) a) (∃s,aB a d 0 1=some [pI s]/\ ab (decide (s>16)) (K (.aD [pI (-1),pI 7]) a) (ab (decide (((List.length b:Nat):Int)<1)) (K (.aD [pI (-1),pI 7]) a) (ab (decide (((List.length b:Nat):Int)>16)) (K (.aD [pI (-1),pI 7]) a) (bJ a 3 [pI 0] λk W=> bJ W 36 [pI 0] λg X=> stM k 0 [pI (-1)] X λY=> stM g 0 [pI 0] Y λZ=> aa prog 188 [.list 7 j i,pI 0,pI 0,.fn (.func 190) [] [pP g 0,pP k 0]] Z λa2 f=> ∃a6 a7,a2=(.aD [pI a6,pB a7])/\ ∃t,aB f g 0 1=some [pI t]/\ ab (t != 0) (∃u,aB f k 0 1=some [pI u]/\ ∃v,aB f g 0 1=some [pI v]/\ K (.aD [pI u,pI v]) f) (ak (α:=Int) (λT e p=> ab (decide (e<((List.length b:Nat):Int))) (0<=e/\∃(n:List PV),(b)[Int.toNat e]?=some n/\ ∃w x y z A B C D E F G H I J L M N O P,ay n 0 19=some [pS w,pS x,pI y,pS z,pI A,pI B,pS C,pI D,pS E,pI F,pS G,pI H,pS I,pI J,pI L,pS M,pI N,pS O,pI P]/\ aa prog 192 [.agg [pS w,pS x,pI y,pS z,pI A,pI B,pS C,pI D,pS E,pI F,pS G,pI H,pS I,pI J,pI L,pS M,pI N,pS O,pI P]] p λa3 l=> ∃Q,a3=(pB Q)/\ ab (!Q) (∃R,aB l d 0 1=some [pI R]/\ K (.aD [pI (IntKind.wrap .i64 (R+e)),pI 9]) l) (T (IntKind.wrap .i64 (e+1)) l)) (K (.aD [pI (-1),pI 0]) p)) (0) f))))))):aa prog 128 [.agg [pS m,.list 7 j i,.list 19 S b]] u0 K:= VC [1,8] [(12,⟨[(46,.one (.raw (.int .i64)))],[]⟩)] [] [] [] [] [] func128 h
theorem rz.c{i:Fl}{b:Lq}(h: bJ u0 309 [.list 1 .nil [],pB false] λd k=> ak (α:=Int) (λj a f=> ab (decide (a<((List.length b:Nat):Int))) (0<=a/\∃(e:List PV),(b)[Int.toNat a]?=some e/\ ∃g,ay e 0 1=some [pS g]/\ aa prog 193 [pP d 0,pS g] f λm l=> ∃n,m=(pB n)/\ j (IntKind.wrap .i64 (a+1)) l) (K (pP d 0) f)) (0) k):aa prog 129 [.list 1 i b] u0 K:= VC [] [(3,⟨[(10,.one (.raw (.int .i64)))],[]⟩)] [] [] [] [] [] func129 h
theorem mC.c{d:Option Addr}{A:Fl}{e:Lq}{k:Int}(h: ak (α:=Int×Int) (λl a f=> ab (decide (a.2<((List.length e:Nat):Int))) (0<=a.2/\∃(m:List PV),(e)[Int.toNat a.2]?=some m/\ ∃b r s F t G u v w g,ay m 0 7=some [pI b,pB r,pS s,.list 6 F t,.list 6 G u,pB v,.list 7 w g]/\ bZ (α:=Option Addr) (λj=> ab (b != 1) (aa prog 194 [pA d] f λC B=> ∃x,C=(pA x)/\ j x B) (j d f)) (λn o=> ab (b == 3) (aa prog 130 [pA n,.list 7 w g,pI (IntKind.wrap .i64 (a.1+1))] o λD p=> ∃i y,D=(.aD [pI i,pB y])/\ ab (!y) (K (.aD [pI i,pB false]) p) (l (i,(IntKind.wrap .i64 (a.2+1))) p)) (aa prog 195 [pA n,.agg [pI b,pB r,pS s,.list 6 .sh t,.list 6 .sh u,pB v,.list 7 .sh g]] o λE q=> ∃z,E=(pB z)/\ ab (!z) (K (.aD [pI a.1,pB false]) q) (l ((IntKind.wrap .i64 (a.1+1)),(IntKind.wrap .i64 (a.2+1))) q)))) (K (.aD [pI a.1,pB true]) f)) (k,0) u0):aa prog 130 [pA d,.list 7 A e,pI k] u0 K:= VC [9] [(2,⟨[(2,.one (.raw (.int .i64))),(15,.one (.raw (.int .i64)))],[]⟩)] [(7,⟨[(10,.one (.raw .ptr))],[]⟩)] [] [] [] [] func130 h
theorem ur.c{b:Option Addr}{a f:ByteArray}{e g:Int}(h: ab (!aJ a ⟨#[]⟩) (aa prog 196 [pA b,pS a] u0 λj i=> ∃d,j=(pB d)/\ K (pB (!d)) i) (K (pB false) u0)):aa prog 131 [pA b,.agg [pS a,pI e,pS f,pI g]] u0 K:= VC [3] [] [] [] [] [] [] func131 h
theorem lA.c{a:ByteArray}(h: K (.agg [pS a,pS ⟨#[]⟩,.list 7 .nil [],.list 19 .nil [],.list 1 .nil []]) u0):aa prog 133 [pS a] u0 K:= VC [2] [] [] [] [] [] [] func133 h
theorem oq.c{a:Option Addr}(h: K (.fn (.func 199) [] [.bn [pA a] 0]) u0):aa prog 135 [pA a] u0 K:= VC [] [] [] [] [1] [] [] func135 h
theorem wV.c{a:ByteArray}(h: ab (decide ((((ByteArray.size a:Nat):Int):Int)<1)) (K (pB false) u0) (ab (decide ((((ByteArray.size a:Nat):Int):Int)>32)) (K (pB false) u0) ((0:Int)<=0/\∃VB:UInt8,a[Int.toNat 0]?=some VB/\ ab (decide ((((UInt8.toNat VB:Nat):Int):Int)<97)) (K (pB false) u0) ((0:Int)<=0/\∃c19:UInt8,a[Int.toNat 0]?=some c19/\ ab (decide ((((UInt8.toNat c19:Nat):Int):Int)>122)) (K (pB false) u0) (ak (α:=Int) (λg b d=> ab (decide (b<((ByteArray.size a:Nat):Int))) (0<=b/\∃c30:UInt8,a[Int.toNat b]?=some c30/\ aa prog 201 [.raw (.int .u8 ((UInt8.toNat c30:Nat):Int))] d λi e=> ∃f,i=(pB f)/\ ab (!f) (K (pB false) e) (g (IntKind.wrap .i64 (b+1)) e)) (K (pB true) d)) (0) u0))))):aa prog 136 [pS a] u0 K:= VC [] [(4,⟨[(3,.one (.raw (.int .i64)))],[]⟩)] [] [] [] [] [] func136 h
theorem mE.c{B:Fl}{b:Lq}{g d:Int}(h: ak (α:=Int×Int) (λC a l=> ab (decide (a.2<((List.length b:Nat):Int))) (0<=a.2/\∃(i:List PV),(b)[Int.toNat a.2]?=some i/\ ∃o p q H r I s t J u,ay i 0 7=some [pI o,pB p,pS q,.list 6 H r,.list 6 I s,pB t,.list 7 J u]/\ aa prog 202 [.agg [pI o,pB p,pS q,.list 6 .sh r,.list 6 .sh s,pB t,.list 7 .sh u],pI d] l λE m=> ∃e,E=(pI e)/\ ab (e != 0) (K (.aD [pI a.1,pI e]) m) (0<=a.2/\∃(j:List PV),(b)[Int.toNat a.2]?=some j/\ ∃w v,ay j 6 1=some [.list 7 w v]/\ aa prog 137 [.list 7 w v,pI (IntKind.wrap .i64 (a.1+1)),pI (IntKind.wrap .i64 (d+1))] m λF n=> ∃x f,F=(.aD [pI x,pI f])/\ ab (f != 0) (K (.aD [pI x,pI f]) n) (0<=a.2/\∃(k:List PV),(b)[Int.toNat a.2]?=some k/\ ∃z y,ay k 6 1=some [.list 7 z y]/\ aa prog 80 [.list 7 z y] n λG D=> ∃A,G=(pI A)/\ C ((IntKind.wrap .i64 (a.1+(IntKind.wrap .i64 (1+A)))),(IntKind.wrap .i64 (a.2+1))) D))) (K (.aD [pI (-1),pI 0]) l)) (g,0) u0):aa prog 137 [.list 7 B b,pI g,pI d] u0 K:= VC [] [(2,⟨[(1,.one (.raw (.int .i64))),(8,.one (.raw (.int .i64)))],[]⟩)] [] [] [] [] [] func137 h
theorem yT.c{q r t v w i j l n:ByteArray}{s u b g x d k e m o:Int}(h: aa prog 136 [pS q] u0 λH y=> ∃D,H=(pB D)/\ ab (!D) (K (pB false) y) (aa prog 203 [.agg [pS r,pI s,pS t,pI u]] y λI z=> ∃B,I=(pB B)/\ ab (!B) (K (pB false) z) (aa prog 203 [.agg [pS v,pI g,pS w,pI x]] z λJ a=> ∃C,J=(pB C)/\ ab (!C) (K (pB false) a) (ab (decide (b<0)) (K (pB false) a) (ab (decide (b>3)) (K (pB false) a) (ab (decide (e<1)) (K (pB false) a) (ab (decide (e>10)) (K (pB false) a) (bZ (α:=Unit) (λp=> ab (b == 0) (ab (!(aJ i ⟨#[]⟩&&((d == 0)&&(aJ j ⟨#[]⟩&&((k == 0)&&true))))) (K (pB false) a) (p () a)) (aa prog 203 [.agg [pS i,pI d,pS j,pI k]] a λL f=> ∃E,L=(pB E)/\ ab (!E) (K (pB false) f) (ab (g == 3) (K (pB false) f) (ab (d == 3) (K (pB false) f) (p () f))))) (λN A=> ab (decide (e>=8)) (aa prog 203 [.agg [pS l,pI m,pS n,pI o]] A λM G=> ∃F,M=(pB F)/\ K (pB F) G) (K (pB (aJ l ⟨#[]⟩&&((m == 0)&&(aJ n ⟨#[]⟩&&((o == 0)&&true))))) A)))))))))):aa prog 138 [.agg [pS q,pS r,pI s,pS t,pI u,pI b,pS v,pI g,pS w,pI x,pS i,pI d,pS j,pI k,pI e,pS l,pI m,pS n,pI o]] u0 K:= VC [1] [] [(8,⟨[],[]⟩)] [] [] [] [] func138 h
theorem yR.c{z:Int}{o C:Bool}{f:ByteArray}{A B E F:Fl}{b d D e:Lq}(h: aV false 1 16 .nil [] e u0 λg J=> bZ (α:=(Fl×Lq)) (λn=> aa prog 140 [.list 1 g ([]++e),pS f] J λQ j=> ∃u,Q=(pB u)/\ ab (!u) (ab (!o) (K (.aD [.list 1 .nil [],pB false]) j) (aV false 1 16 g ([]++e) [[pS f]] j λG M=> n (G,(([]++e)++[[pS f]])) M)) (n (g,([]++e)) j)) (λt L=> aV true 6 80 .nil [] b L λH N=> aV false 6 80 H ([]++b) d N λS O=> ak (α:=(Fl×Lq)×Int) (λi a k=> ab (decide (a.2<((List.length (([]++b)++d):Nat):Int))) (0<=a.2/\∃(p:List PV),((([]++b)++d))[Int.toNat a.2]?=some p/\ ∃v,ay p 1 1=some [pS v]/\ ab (aJ v ⟨#[]⟩) (i ((a.1.1,a.1.2),(IntKind.wrap .i64 (a.2+1))) k) (0<=a.2/\∃(q:List PV),((([]++b)++d))[Int.toNat a.2]?=some q/\ ∃w,ay q 1 1=some [pS w]/\ aa prog 140 [.list 1 a.1.1 a.1.2,pS w] k λR l=> ∃x,R=(pB x)/\ ab x (i ((a.1.1,a.1.2),(IntKind.wrap .i64 (a.2+1))) l) (0<=a.2/\∃(r:List PV),((([]++b)++d))[Int.toNat a.2]?=some r/\ ∃y,ay r 0 1=some [pI y]/\ ab (y != 1) (K (.aD [.list 1 .nil [],pB false]) l) (0<=a.2/\∃(s:List PV),((([]++b)++d))[Int.toNat a.2]?=some s/\ ∃m,ay s 1 1=some [pS m]/\ aV false 1 16 a.1.1 a.1.2 [[pS m]] l λI P=> i ((I,(a.1.2++[[pS m]])),(IntKind.wrap .i64 (a.2+1))) P)))) (K (.aD [.list 1 a.1.1 a.1.2,pB true]) k)) ((t.1,t.2),0) O)):aa prog 139 [.agg [pI z,pB o,pS f,.list 6 A b,.list 6 B d,pB C,.list 7 E D],.list 1 F e] u0 K:= VC [2] [(8,⟨[(6,.one (.list 1)),(8,.one (.raw (.int .i64)))],[]⟩)] [(6,⟨[(6,.one (.list 1))],[]⟩)] [] [] [] [] func139 h
theorem yS.c{i:Fl}{b:Lq}{e:ByteArray}(h: ak (α:=Int) (λj a d=> ab (decide (a<((List.length b:Nat):Int))) (0<=a/\∃(f:List PV),(b)[Int.toNat a]?=some f/\ ∃g,ay f 0 1=some [pS g]/\ ab (aJ g e) (K (pB true) d) (j (IntKind.wrap .i64 (a+1)) d)) (K (pB false) d)) (0) u0):aa prog 140 [.list 1 i b,pS e] u0 K:= VC [] [(2,⟨[(5,.one (.raw (.int .i64)))],[]⟩)] [] [] [] [] [] func140 h
theorem BL.c{b:Option Addr}{o q r t u w z:Int}{p s v:ByteArray}{x y:Bool}(h: bJ u0 78 [pI o,pS p,pI q,pI r,pS s,pI t,pI u,pS v,pI w,pB x,pB y,pI z] λa d=> bZ (α:=(Fl×Lq)×Int) (λm=> nP b λg1 g7=> ∃i,aB d g1 g7 1=some [pA i]/\ ∃j,aB d a 11 1=some [pI j]/\ (aa prog 210 [pA i,pI j] d λh9 h4=> ∃G I L N P R T V X Z a1 a3 a5,h9=(.aD [.agg [pI G,pS I,pI L,pI N,pS P,pI R,pI T,pS V,pI X,pB Z,pB a1,pI a3],pB a5])/\ bJ h4 78 [pI 0,pS ⟨#[]⟩,pI 0,pI 0,pS ⟨#[]⟩,pI 0,pI 0,pS ⟨#[]⟩,pI 0,pB false,pB false,pI 0] λg2 h5=> stM g2 0 [pI G,pS I,pI L,pI N,pS P,pI R,pI T,pS V,pI X,pB Z,pB a1,pI a3] h5 λD=> ab a5 (K (.aD [.list 1 .nil [],pI 3]) D) (m ((.nil,[]),0) D))/\ (bJ d 78 [pI 0,pS ⟨#[]⟩,pI 0,pI 0,pS ⟨#[]⟩,pI 0,pI 0,pS ⟨#[]⟩,pI 0,pB false,pB false,pI 0] λg3 h6=> aa prog 210 [pA i,pI j] h6 λi0 h7=> ∃H J M O Q S U W Y a0 a2 a4 a6,i0=(.aD [.agg [pI H,pS J,pI M,pI O,pS Q,pI S,pI U,pS W,pI Y,pB a0,pB a2,pI a4],pB a6])/\ stM g3 0 [pI H,pS J,pI M,pI O,pS Q,pI S,pI U,pS W,pI Y,pB a0,pB a2,pI a4] h7 λE=> ab a6 (K (.aD [.list 1 .nil [],pI 3]) E) (m ((.nil,[]),0) E))) (λj2 e=> nP b λg4 g8=> ∃a7,aB e g4 g8 1=some [pA a7]/\ ∃a8,aB e a 11 1=some [pI a8]/\ ∃a9 b0 b1 b2 b3 b4 b5 b6 b7 b8 b9 c0,aB e a 0 12=some [pI a9,pS b0,pI b1,pI b2,pS b3,pI b4,pI b5,pS b6,pI b7,pB b8,pB b9,pI c0]/\ aa prog 211 [pA a7,pI a8,.agg [pI a9,pS b0,pI b1,pI b2,pS b3,pI b4,pI b5,pS b6,pI b7,pB b8,pB b9,pI c0]] e λi1 h8=> ∃i6,i1=(pB i6)/\ bJ h8 45 [.list 1 .nil []] λf F=> nP b λg5 g9=> ∃c1,aB F g5 (g9+1) 1=some [pA c1]/\ aa prog 212 [pA c1] F λi2 h1=> ∃c2 c3 c4,i2=(.fn c2 c3 c4)/\ bk prog (.fn c2 c3 c4) (λi5 n A=> ∃k c5 c6 c7 i7 c8 i8 c9 d0 i9 d1 j0 d2,i5=[pI k,.agg [pI c5,pB c6,pS c7,.list 6 i7 c8,.list 6 i8 c9,pB d0,.list 7 i9 d1,pI j0,pA d2]]/\ ∃d3 d4 d5 d6 d7 d8 d9 e0 e1 e2 e3 e4,aB A a 0 12=some [pI d3,pS d4,pI d5,pI d6,pS d7,pI d8,pI d9,pS e0,pI e1,pB e2,pB e3,pI e4]/\ aa prog 213 [.agg [pI c5,pB c6,pS c7,.list 6 .sh c8,.list 6 .sh c9,pB d0,.list 7 .sh d1],.agg [pI d3,pS d4,pI d5,pI d6,pS d7,pI d8,pI d9,pS e0,pI e1,pB e2,pB e3,pI e4]] A λi3 g=> ∃e5,i3=(pB e5)/\ ab e5 (∃e6 e7 e8 e9 f0 f1 f2 f3 f4 f5 f6 f7,aB g a 0 12=some [pI e6,pS e7,pI e8,pI e9,pS f0,pI f1,pI f2,pS f3,pI f4,pB f5,pB f6,pI f7]/\ aa prog 214 [pA d2,.agg [pI e6,pS e7,pI e8,pI e9,pS f0,pI f1,pI f2,pS f3,pI f4,pB f5,pB f6,pI f7]] g λi4 C=> ∃j1,i4=(pB j1)/\ ∃f8 l,aB C f 0 1=some [.list 1 f8 l]/\ aV false 1 8 f8 l [[pI k]] C λg6 h2=> stM f 0 [.list 1 g6 (l++[[pI k]])] h2 λh3=> n none h3) (n none g)) (λh0 B=> PK h0 (∃g0 f9,aB B f 0 1=some [.list 1 g0 f9]/\ K (.aD [.list 1 g0 f9,pI 0]) B) (False) []) h1)):aa prog 147 [pA b,.agg [pI o,pS p,pI q,pI r,pS s,pI t,pI u,pS v,pI w,pB x,pB y,pI z]] u0 K:= VC [10] [] [(4,⟨[(4,.one (.list 1)),(5,.one (.raw (.int .i64)))],[]⟩)] [(35,[287,292])] [] [] [] func147 h
theorem gd.c{a:Option Addr}(h: K (.fn (.func 215) [] [.bn [pA a] 0]) u0):aa prog 149 [pA a] u0 K:= VC [] [] [] [] [1] [] [] func149 h
theorem Lt.c{d a:Int}{b:ByteArray}(h: ab (d == 1) (ab ((((ByteArray.size b:Nat):Int):Int) == 1) ((0:Int)<=0/\∃VB:UInt8,b[Int.toNat 0]?=some VB/\ aa prog 217 [.raw (.int .u8 ((UInt8.toNat VB:Nat):Int))] u0 λj e=> ∃f,j=(pB f)/\ ab f (ab (decide (a>=1)) (K (pB (decide (a<=1048576))) e) (K (pB false) e)) (K (pB false) e)) (K (pB false) u0)) (ab (d == 2) (ab (aJ b ⟨#[]⟩) (ab (decide (a>=(-2147483647))) (K (pB (decide (a<=2147483647))) u0) (K (pB false) u0)) (K (pB false) u0)) (ab (d == 3) (ab (a == 0) (aa prog 187 [pS b] u0 λk i=> ∃g,k=(pB g)/\ K (pB g) i) (K (pB false) u0)) (K (pB false) u0)))):aa prog 150 [.agg [pI d,pS b,pI a]] u0 K:= VC [1] [] [] [] [] [] [] func150 h
theorem Ax.c{a:Option Addr}{i:Int}(h: nP a λY a1=> ∃o,aB u0 Y a1 1=some [pA o]/\ aa prog 218 [pA o,pI i] u0 λa9 a4=> ∃p q r s t u v w x y z A B,a9=(.aD [.agg [pI p,pS q,pI r,pI s,pS t,pI u,pI v,pS w,pI x,pB y,pB z,pI A],pB B])/\ bJ a4 78 [pI 0,pS ⟨#[]⟩,pI 0,pI 0,pS ⟨#[]⟩,pI 0,pI 0,pS ⟨#[]⟩,pI 0,pB false,pB false,pI 0] λj a5=> stM j 0 [pI p,pS q,pI r,pI s,pS t,pI u,pI v,pS w,pI x,pB y,pB z,pI A] a5 λk=> ab (!B) (K (.aD [.list 1 .nil [],pI 4]) k) (bJ k 45 [.list 1 .nil []] λb l=> nP a λZ a2=> ∃C,aB l Z (a2+1) 1=some [pA C]/\ aa prog 212 [pA C] l λb0 a6=> ∃D E F,b0=(.fn D E F)/\ bk prog (.fn D E F) (λb2 g m=> ∃e b3 b4 b5 b7 b6 b9 b8 c0 c2 c1 c3 G,b2=[pI e,.agg [pI b3,pB b4,pS b5,.list 6 b7 b6,.list 6 b9 b8,pB c0,.list 7 c2 c1,pI c3,pA G]]/\ ∃H I J L M N O P Q R S T,aB m j 0 12=some [pI H,pS I,pI J,pI L,pS M,pI N,pI O,pS P,pI Q,pB R,pB S,pI T]/\ aa prog 219 [pA G,.agg [pI H,pS I,pI J,pI L,pS M,pI N,pI O,pS P,pI Q,pB R,pB S,pI T]] m λb1 d=> ∃U,b1=(pB U)/\ ab U (∃V f,aB d b 0 1=some [.list 1 V f]/\ aV false 1 8 V f [[pI e]] d λa0 a7=> stM b 0 [.list 1 a0 (f++[[pI e]])] a7 λa8=> g none a8) (g none d)) (λa3 n=> PK a3 (∃X W,aB n b 0 1=some [.list 1 X W]/\ K (.aD [.list 1 X W,pI 0]) n) (False) []) a6)):aa prog 157 [pA a,pI i] u0 K:= VC [10] [] [] [(27,[287,292])] [] [] [] func157 h
theorem Er.c{d e:Option Addr}(h: nP d λl n=> ∃p b,aB u0 l (n+8) 1=some [.list 1 p b]/\ ak (α:=Int) (λm a g=> ab (decide (a<((List.length b:Nat):Int))) (0<=a/\∃(f:List PV),(b)[Int.toNat a]?=some f/\ ∃j,ay f 0 1=some [pI j]/\ aa prog 220 [pA e,pI j] g λo i=> ∃q k,o=(.aD [pI q,pB k])/\ ab k (K (pB true) i) (m (IntKind.wrap .i64 (a+1)) i)) (K (pB false) g)) (0) u0):aa prog 160 [pA d,pA e] u0 K:= VC [] [(2,⟨[(14,.one (.raw (.int .i64)))],[]⟩)] [] [] [] [] [] func160 h
theorem uG.c{d b:Int}{a:ByteArray}(h: ab (d == 1) (ab ((((ByteArray.size a:Nat):Int):Int) == 1) ((0:Int)<=0/\∃VB:UInt8,a[Int.toNat 0]?=some VB/\ ab (decide ((((UInt8.toNat VB:Nat):Int):Int)>=65)) ((0:Int)<=0/\∃c20:UInt8,a[Int.toNat 0]?=some c20/\ ab (decide ((((UInt8.toNat c20:Nat):Int):Int)<=90)) (ab (decide (b>=1)) (K (pB (decide (b<=1048576))) u0) (K (pB false) u0)) (K (pB false) u0)) (K (pB false) u0)) (K (pB false) u0)) (ab (d == 2) (ab (aJ a ⟨#[]⟩) (ab (decide (b>=(-2147483647))) (K (pB (decide (b<=2147483647))) u0) (K (pB false) u0)) (K (pB false) u0)) (ab (d == 3) (ab (b == 0) (aa prog 136 [pS a] u0 λg f=> ∃e,g=(pB e)/\ K (pB e) f) (K (pB false) u0)) (K (pB false) u0)))):aa prog 161 [.agg [pI d,pS a,pI b]] u0 K:= VC [1] [] [] [] [] [] [] func161 h
theorem uH.c{a d:Int}{b:ByteArray}(h: aa prog 161 [.agg [pI a,pS b,pI d]] u0 λg e=> ∃f,g=(pB f)/\ ab f (K (pB (a != 1)) e) (K (pB false) e)):aa prog 162 [.agg [pI a,pS b,pI d]] u0 K:= VC [1] [] [] [] [] [] [] func162 h
theorem Bo.c{e n:Int}{f m o u:Bool}{g p:ByteArray}{j l T r t U:Fl}{i k b q s d:Lq}(h: ab (e != n) (K (pB false) u0) (ab (!(f == o)) (K (pB false) u0) (ab (!aJ g p) (K (pB false) u0) (ab (!(m == u)) (K (pB false) u0) (ab (((List.length b:Nat):Int) != ((List.length d:Nat):Int)) (K (pB false) u0) (aa prog 221 [.list 6 j i,.list 6 r q] u0 λW x=> ∃B,W=(pB B)/\ ab (!B) (K (pB false) x) (aa prog 221 [.list 6 l k,.list 6 t s] x λX y=> ∃C,X=(pB C)/\ ab (!C) (K (pB false) y) (ak (α:=Int) (λV a z=> ab (decide (a<((List.length b:Nat):Int))) (0<=a/\∃(v:List PV),(b)[Int.toNat a]?=some v/\ ∃D E F Z G a0 H I a1 J,ay v 0 7=some [pI D,pB E,pS F,.list 6 Z G,.list 6 a0 H,pB I,.list 7 a1 J]/\ 0<=a/\∃(w:List PV),(d)[Int.toNat a]?=some w/\ ∃L M N a2 O a3 P Q a4 R,ay w 0 7=some [pI L,pB M,pS N,.list 6 a2 O,.list 6 a3 P,pB Q,.list 7 a4 R]/\ aa prog 163 [.agg [pI D,pB E,pS F,.list 6 .sh G,.list 6 .sh H,pB I,.list 7 .sh J],.agg [pI L,pB M,pS N,.list 6 .sh O,.list 6 .sh P,pB Q,.list 7 .sh R]] z λY A=> ∃S,Y=(pB S)/\ ab (!S) (K (pB false) A) (V (IntKind.wrap .i64 (a+1)) A)) (K (pB true) z)) (0) y)))))))):aa prog 163 [.agg [pI e,pB f,pS g,.list 6 j i,.list 6 l k,pB m,.list 7 T b],.agg [pI n,pB o,pS p,.list 6 r q,.list 6 t s,pB u,.list 7 U d]] u0 K:= VC [2,3,6] [(4,⟨[(61,.one (.raw (.int .i64)))],[]⟩)] [] [] [] [] [] func163 h
theorem vf.c{a:Int}{b j:Bool}{d:ByteArray}{f i l:Fl}{e g k:Lq}(h: aa prog 222 [.list 6 f e] u0 λv s=> ∃p o,v=(.list 6 p o)/\ aa prog 222 [.list 6 i g] s λw t=> ∃r q,w=(.list 6 r q)/\ aa prog 173 [.list 7 l k] t λx u=> ∃n m,x=(.list 7 n m)/\ K (.agg [pI a,pB b,pS d,.list 6 p o,.list 6 r q,pB j,.list 7 n m]) u):aa prog 164 [.agg [pI a,pB b,pS d,.list 6 f e,.list 6 i g,pB j,.list 7 l k]] u0 K:= VC [1,2] [] [] [] [] [] [] func164 h
theorem IJ.c{b:Fl}{a:Lq}(h: K (.fn (.func 223) [] [.bn [.list 7 .sh a] 0]) u0):aa prog 165 [.list 7 b a] u0 K:= VC [] [] [] [] [1] [] [] func165 h
theorem Av.c{V:Option Addr}{W:Int}{X a3:Bool}{Y:ByteArray}{a0 a2 a5:Fl}{Z a1 a4:Lq}(h: bJ u0 132 [pA V] λi k0=> bJ k0 28 [pI W,pB X,pS Y,.list 6 a0 Z,.list 6 a2 a1,pB a3,.list 7 a5 a4] λa k1=> bJ k1 3 [pI 0] λj b1=> ∃b6 b7 b8 m9 b9 n0 c0 c1 n1 c2,aB b1 a 0 7=some [pI b6,pB b7,pS b8,.list 6 m9 b9,.list 6 n0 c0,pB c1,.list 7 n1 c2]/\ aa prog 225 [.agg [pI b6,pB b7,pS b8,.list 6 .sh b9,.list 6 .sh c0,pB c1,.list 7 .sh c2]] b1 λl6 l2=> ∃c3 c4 c5 c7 c6 c9 c8 d0 d2 d1,l6=(.agg [pI c3,pB c4,pS c5,.list 6 c7 c6,.list 6 c9 c8,pB d0,.list 7 d2 d1])/\ stM a 0 [pI c3,pB c4,pS c5,.list 6 c7 c6,.list 6 c9 c8,pB d0,.list 7 d2 d1] l2 λl3=> bJ l3 287 [pI 0] λb l4=> stM b 0 [pI 0] l4 λr=> ∃d3,aB r i 0 1=some [pA d3]/\ nP d3 λi6 j2=> ∃d4,aB r i6 (j2+1) 1=some [pA d4]/\ aa prog 212 [pA d4] r λl7 l5=> ∃d5 d6 d7,l7=(.fn d5 d6 d7)/\ bk prog (.fn d5 d6 d7) (λm7 n d=> ∃m d8 s d9 e0 t e1 u v n2 e2 e3 e4,m7=[pI m,.agg [pI d8,pB s,pS d9,.list 6 e0 t,.list 6 e1 u,pB v,.list 7 n2 e2,pI e3,pA e4]]/\ bZ (α:=Unit) (λg=> ∃e5,aB d a 1 1=some [pB e5]/\ ab (s == e5) (∃e6,aB d a 5 1=some [pB e6]/\ ab (v == e6) (∃e8 e7,aB d a 3 1=some [.list 6 e8 e7]/\ aa prog 226 [.list 6 e0 t,.list 6 e8 e7] d λl9 o=> ∃e9,l9=(pB e9)/\ ab e9 (∃f1 f0,aB o a 4 1=some [.list 6 f1 f0]/\ aa prog 226 [.list 6 e1 u,.list 6 f1 f0] o λm0 l=> ∃f2,m0=(pB f2)/\ ab f2 (∃f3,aB l i 0 1=some [pA f3]/\ nP f3 λi7 j3=> ∃f4,aB l i7 (j3+1) 1=some [pA f4]/\ aa prog 227 [pA f4,pI m,.agg [pI d8,pB s,pS d9,.list 6 .sh t,.list 6 .sh u,pB v,.list 7 .sh e2,pI (IntKind.wrap .i64 (e3+1)),pA e4]] l λm1 k2=> ∃n3,m1=(pB n3)/\ stM j 0 [pI m] k2 λk3=> n (some .ret) k3) (g () l)) (g () o)) (g () d)) (g () d)) (λo3 k=> ∃f5,aB k b 0 1=some [pI f5]/\ ab (m == f5) (∃f6,aB k b 0 1=some [pI f6]/\ stM b 0 [pI (IntKind.wrap .i64 (f6+1))] k λk4=> n none k4) (n none k))) (λj8 e=> PK j8 (bZ (α:=Option Addr) (λT=> ∃w x y A z C B D F E,aB e a 0 7=some [pI w,pB x,pS y,.list 6 A z,.list 6 C B,pB D,.list 7 F E]/\ (dz prog 228 [.list 12 .nil []] e λm2 k5=> ∃f7,m2=(pA f7)/\ bJ (Mem.or e k5) 292 [pI 0,pB false,pS ⟨#[]⟩,.list 6 .nil [],.list 6 .nil [],pB false,.list 7 .nil [],pI 0,pA none] λa6 k6=> stM a6 0 [pI w,pB x,pS y,.list 6 A z,.list 6 C B,pB D,.list 7 F E,pI 1,pA f7] k6 λk7=> T (some ⟨a6,0,none⟩) k7)/\ (bJ e 292 [pI 0,pB false,pS ⟨#[]⟩,.list 6 .nil [],.list 6 .nil [],pB false,.list 7 .nil [],pI 0,pA none] λa7 b2=> dz prog 228 [.list 12 .nil []] b2 λm3 k8=> ∃f8,m3=(pA f8)/\ stM a7 0 [pI w,pB x,pS y,.list 6 A z,.list 6 C B,pB D,.list 7 F E,pI 1,pA f8] (Mem.or b2 k8) λk9=> T (some ⟨a7,0,none⟩) k9)) (λb0 p=> ∃f9,aB p i 0 1=some [pA f9]/\ nP f9 λi8 j4=> ∃g0,aB p i8 j4 1=some [pA g0]/\ aa prog 229 [pA g0] p λm4 l0=> ∃g1 g2 g3,m4=(.fn g1 g2 g3)/\ bk prog (.fn g1 g2 g3) (λm8 U b3=> ∃n4 G H I J L M N O P Q R S,m8=[pI n4,.agg [pI G,pS H,pI I,pI J,pS L,pI M,pI N,pS O,pI P,pB Q,pB R,pI S]]/\ ∃g4 g5 g6 n5 g7 n6 g8 g9 n7 h0,aB b3 a 0 7=some [pI g4,pB g5,pS g6,.list 6 n5 g7,.list 6 n6 g8,pB g9,.list 7 n7 h0]/\ aa prog 213 [.agg [pI g4,pB g5,pS g6,.list 6 .sh g7,.list 6 .sh g8,pB g9,.list 7 .sh h0],.agg [pI G,pS H,pI I,pI J,pS L,pI M,pI N,pS O,pI P,pB Q,pB R,pI S]] b3 λm5 q=> ∃h1,m5=(pB h1)/\ ab h1 (aF (pA b0) λi9 j5=> ∃h2,aB q i9 (j5+8) 1=some [pA h2]/\ aa prog 214 [pA h2,.agg [pI G,pS H,pI I,pI J,pS L,pI M,pI N,pS O,pI P,pB Q,pB R,pI S]] q λm6 l1=> ∃n8,m6=(pB n8)/\ U none l1) (U none q)) (λj9 f=> PK j9 (∃h3,aB f i 0 1=some [pA h3]/\ nP h3 λj0 j6=> ∃h4,aB f j0 (j6+1) 1=some [pA h4]/\ ∃h5,aB f b 0 1=some [pI h5]/\ aF (pA b0) λj1 j7=> ∃h6 h7 h8 n9 h9 o0 i0 i1 o1 i2 i3 i4,aB f j1 j7 9=some [pI h6,pB h7,pS h8,.list 6 n9 h9,.list 6 o0 i0,pB i1,.list 7 o1 i2,pI i3,pA i4]/\ aa prog 227 [pA h4,pI h5,.agg [pI h6,pB h7,pS h8,.list 6 .sh h9,.list 6 .sh i0,pB i1,.list 7 .sh i2,pI i3,pA i4]] f λl8 b4=> ∃o2,l8=(pB o2)/\ ∃i5,aB b4 b 0 1=some [pI i5]/\ stM j 0 [pI i5] b4 λb5=> ∃a8,aB b5 j 0 1=some [pI a8]/\ K (pI a8) b5) (False) []) l0)) (∃a9,aB e j 0 1=some [pI a9]/\ K (pI a9) e) []) l5):aa prog 166 [pA V,.agg [pI W,pB X,pS Y,.list 6 a0 Z,.list 6 a2 a1,pB a3,.list 7 a5 a4]] u0 K:= VC [7,10] [] [(10,⟨[],[(7,9)]⟩),(13,⟨[(8,.one (.raw .ptr))],[]⟩)] [(18,[287,292]),(75,[287,78])] [] [] [] func166 h
theorem Lo.c{b:Int}{d i:Bool}{e:ByteArray}{u v w o:Fl}{f g j n:Lq}{k:Fn}{l m:List PV}(h: bJ u0 84 [.list 4 o n] λa p=> ∃r q,aB p a 0 1=some [.list 4 r q]/\ aa prog 230 [.list 4 r q] p λz x=> ∃t s,z=(.list 4 t s)/\ stM a 0 [.list 4 t s] x λy=> K (.fn (.func 231) [] [.bn [.fn k l m] 0,.bn [pI b,pB d,pS e,.list 6 .sh f,.list 6 .sh g,pB i,.list 7 .sh j] 0,pP a 0]) y):aa prog 167 [.agg [pI b,pB d,pS e,.list 6 u f,.list 6 v g,pB i,.list 7 w j],.fn k l m,.list 4 o n] u0 K:= VC [] [] [] [] [3,4] [] [] func167 h
theorem Am.c{a:Option Addr}{s g:Int}{t y:Bool}{d:ByteArray}{v x A f:Fl}{u w z e:Lq}(h: aa prog 233 [.list 4 f e,pS d] u0 λG D=> ∃j k l m,G=(.aD [.agg [pI j,pS k,pI l],pB m])/\ bJ D 60 [pI 0,pS ⟨#[]⟩,pI 0] λi E=> stM i 0 [pI j,pS k,pI l] E λb=> ab (!m) (∃n,ay [pA a] 0 1=some [pA n]/\ nP n λB C=> ∃o,aB b B (C+3) 1=some [pA o]/\ aa prog 234 [pA o,pI g] b λH F=> ∃p q r,H=(.fn p q r)/\ K (.fn p q r) F) (K (.fn (.func 235) [] [.bn [pA a] 0,pP i 0]) b)):aa prog 168 [pA a,.agg [pI s,pB t,pS d,.list 6 v u,.list 6 x w,pB y,.list 7 A z],.list 4 f e,pI g] u0 K:= VC [5] [] [] [] [4] [] [] func168 h
theorem ux.c{b:Option Addr}{a e:Int}(h: nP b λq y=> ∃f g G,aB u0 q (y+2) 1=some [pV f g G]/\ nP b λr z=> ∃i j H,aB u0 r (z+2) 1=some [pV i j H]/\ cK i λs A=> 0<=a/\a<((j:Nat):Int)/\ ∃k,aB u0 s (A+Int.toNat a*1) 1=some [pI k]/\ cK f λt B=> 0<=a/\a<((g:Nat):Int)/\ stM t (B+Int.toNat a*1) [pI (IntKind.wrap .i64 (k+e))] u0 λd=> nP b λu C=> ∃l m I,aB d u (C+2) 1=some [pV l m I]/\ cK l λv D=> 0<=a/\a<((m:Nat):Int)/\ ∃n,aB d v (D+Int.toNat a*1) 1=some [pI n]/\ nP b λw E=> ∃o,aB d w E 1=some [pA o]/\ nP o λx F=> ∃p,aB d x F 1=some [pI p]/\ K (pB (decide (n<=p))) d):aa prog 169 [pA b,pI a,pI e] u0 K:= VC [] [] [] [] [] [] [9,10,14,15,24,25] func169 h
theorem Ep.c{N:Option Addr}{e4 e5:Fl}{x O:Lq}{P:Int}(h: bJ u0 264 [pA N] λk f5=> bJ f5 3 [pI P] λf f6=> bJ f6 274 [.list 1 .nil []] λb g2=> bJ g2 4 [pB false] λd g9=> ak (α:=(Fl×Lq)×Int) (λf1 g a8=> ab (decide (g.2<((List.length x:Nat):Int))) (0<=g.2/\∃(a5:List PV),(x)[Int.toNat g.2]?=some a5/\ ∃l p q i5 r i6 s t b3 m,ay a5 0 7=some [pI l,pB p,pS q,.list 6 i5 r,.list 6 i6 s,pB t,.list 7 b3 m]/\ bJ a8 274 [.list 1 .nil []] λj h3=> ak (α:=Int) (λn i a=> ab (decide (i<((List.length g.1.2:Nat):Int))) (0<=i/\∃(a6:List PV),(g.1.2)[Int.toNat i]?=some a6/\ ∃u e,ay a6 0 1=some [.list 4 u e]/\ ab (l == 1) (∃c2,aB a k 0 1=some [pA c2]/\ nP c2 λe6 f2=> ∃c3,aB a e6 f2 1=some [pA c3]/\ ∃c4,aB a k 0 1=some [pA c4]/\ nP c4 λe7 f3=> ∃i8 c5,aB a e7 (f3+1) 1=some [.list 1 i8 c5]/\ ∃H,aB a f 0 1=some [pI H]/\ 0<=H/\∃(a7:List PV),(c5)[Int.toNat H]?=some a7/\ ∃c6,ay a7 0 1=some [pI c6]/\ dz prog 168 [pA c3,.agg [pI l,pB p,pS q,.list 6 .sh r,.list 6 .sh s,pB t,.list 7 .sh m],.list 4 u e,pI c6] a λh6 h4=> ∃c7 c8 c9,h6=(.fn c7 c8 c9)/\ aa prog 167 [.agg [pI l,pB p,pS q,.list 6 .sh r,.list 6 .sh s,pB t,.list 7 .sh m],.fn c7 c8 c9,.list 4 u e] (Mem.or a h4) λh7 h5=> ∃d0 d1 d2,h7=(.fn d0 d1 d2)/\ bk prog (.fn d0 d1 d2) (λi4 M F=> ∃i9 j0 j1 j2 j3 j4 j5 j6 j7 j8 j9 k0 k1 I,i4=[.agg [pI i9,pS j0,pI j1,pI j2,pS j3,pI j4,pI j5,pS j6,pI j7,pB j8,pB j9,pI k0],.list 4 k1 I]/\ ∃d3,aB F k 0 1=some [pA d3]/\ ∃d4,aB F f 0 1=some [pI d4]/\ aa prog 169 [pA d3,pI d4,pI 1] F λh8 y=> ∃d5,h8=(pB d5)/\ ab (!d5) (stM b 0 [.list 1 .nil []] y λf7=> stM d 0 [pB false] f7 λf8=> M (some .ret) f8) (∃d6 J,aB y j 0 1=some [.list 1 d6 J]/\ aV false 1 24 d6 J [[.list 4 .sh I]] y λf0 f9=> stM j 0 [.list 1 f0 (J++[[.list 4 .sh I]])] f9 λg0=> M none g0)) (λf4 v=> PK f4 (n (IntKind.wrap .i64 (i+1)) v) (∃Z Q,aB v b 0 1=some [.list 1 Z Q]/\ ∃a0,aB v d 0 1=some [pB a0]/\ K (.aD [.list 1 Z Q,pB a0]) v) []) h5) (ab (l == 2) (∃d7,aB a k 0 1=some [pA d7]/\ ∃d8,aB a f 0 1=some [pI d8]/\ aa prog 236 [pA d7,.agg [pI l,pB p,pS q,.list 6 .sh r,.list 6 .sh s,pB t,.list 7 .sh m],.list 4 u e,pI d8] a λh9 w=> ∃d9,h9=(pB d9)/\ ab d9 (n (IntKind.wrap .i64 (i+1)) w) (∃e0,aB w k 0 1=some [pA e0]/\ ∃e1,aB w f 0 1=some [pI e1]/\ aa prog 169 [pA e0,pI e1,pI 1] w λi0 z=> ∃e2,i0=(pB e2)/\ ab (!e2) (stM b 0 [.list 1 .nil []] z λg1=> stM d 0 [pB false] g1 λA=> ∃S R,aB A b 0 1=some [.list 1 S R]/\ ∃a1,aB A d 0 1=some [pB a1]/\ K (.aD [.list 1 S R,pB a1]) A) (∃e3 L,aB z j 0 1=some [.list 1 e3 L]/\ aV false 1 24 e3 L [[.list 4 .sh e]] z λe8 g3=> stM j 0 [.list 1 e8 (L++[[.list 4 .sh e]])] g3 λg4=> n (IntKind.wrap .i64 (i+1)) g4))) (∃b4,aB a k 0 1=some [pA b4]/\ ∃b5,aB a f 0 1=some [pI b5]/\ aa prog 170 [pA b4,.list 7 b3 m,.list 4 u e,pI (IntKind.wrap .i64 (b5+1))] a λi1 o=> ∃i7 b6 b7,i1=(.aD [.list 1 i7 b6,pB b7])/\ ab (!b7) (stM b 0 [.list 1 .nil []] o λg5=> stM d 0 [pB false] g5 λB=> ∃U T,aB B b 0 1=some [.list 1 U T]/\ ∃a2,aB B d 0 1=some [pB a2]/\ K (.aD [.list 1 U T,pB a2]) B) (ab (decide (((List.length b6:Nat):Int)>0)) (n (IntKind.wrap .i64 (i+1)) o) (∃b8,aB o k 0 1=some [pA b8]/\ ∃b9,aB o f 0 1=some [pI b9]/\ aa prog 169 [pA b8,pI b9,pI 1] o λi2 C=> ∃c0,i2=(pB c0)/\ ab (!c0) (stM b 0 [.list 1 .nil []] C λg6=> stM d 0 [pB false] g6 λD=> ∃W V,aB D b 0 1=some [.list 1 W V]/\ ∃a3,aB D d 0 1=some [pB a3]/\ K (.aD [.list 1 W V,pB a3]) D) (∃c1 G,aB C j 0 1=some [.list 1 c1 G]/\ aV false 1 24 c1 G [[.list 4 .sh e]] C λe9 g7=> stM j 0 [.list 1 e9 (G++[[.list 4 .sh e]])] g7 λg8=> n (IntKind.wrap .i64 (i+1)) g8)))))) (∃b0 a9,aB a j 0 1=some [.list 1 b0 a9]/\ ∃b1,aB a f 0 1=some [pI b1]/\ dz prog 237 [.list 7 .nr [[pI l,pB p,pS q,.list 6 .sh r,.list 6 .sh s,pB t,.list 7 .sh m]]] a λi3 h0=> ∃b2,i3=(pI b2)/\ stM f 0 [pI (IntKind.wrap .i64 (b1+b2))] (Mem.or a h0) λh1=> f1 ((b0,a9),(IntKind.wrap .i64 (g.2+1))) h1)) (0) h3) (stM b 0 [.list 1 g.1.1 g.1.2] a8 λh2=> stM d 0 [pB true] h2 λE=> ∃Y X,aB E b 0 1=some [.list 1 Y X]/\ ∃a4,aB E d 0 1=some [pB a4]/\ K (.aD [.list 1 Y X,pB a4]) E)) ((.nr,[[.list 4 .sh O]]),0) g9):aa prog 170 [pA N,.list 7 e4 x,.list 4 e5 O,pI P] u0 K:= VC [12] [(3,⟨[(10,.one (.list 1)),(24,.one (.raw (.int .i64)))],[]⟩),(7,⟨[(30,.one (.raw (.int .i64)))],[]⟩)] [] [(78,[78,84])] [] [] [] func170 h
theorem yY.c{b:Option Addr}{d:Int}(h: nP b λs v=> ∃f,aB u0 s (v+1) 1=some [pA f]/\ aa prog 238 [pA f,pI d] u0 λA a=> ∃g i j D k E l m F n e o p,A=(.aD [.agg [pI g,pB i,pS j,.list 6 D k,.list 6 E l,pB m,.list 7 F n,pI e,pA o],pB p])/\ ab (!p) (K (pB false) a) (ab (((IntKind.wrap .i64 (e-1)):Int) == 0) (nP b λt w=> ∃q,aB a t (w+1) 1=some [pA q]/\ aa prog 239 [pA q,pI d] a λB y=> ∃G H I L J N M O Q P R S T,B=(.aD [.agg [pI G,pB H,pS I,.list 6 L J,.list 6 N M,pB O,.list 7 Q P,pI R,pA S],pB T])/\ K (pB true) y) (nP b λu x=> ∃r,aB a u (x+1) 1=some [pA r]/\ aa prog 227 [pA r,pI d,.agg [pI g,pB i,pS j,.list 6 .sh k,.list 6 .sh l,pB m,.list 7 .sh n,pI (IntKind.wrap .i64 (e-1)),pA o]] a λC z=> ∃U,C=(pB U)/\ K (pB true) z))):aa prog 171 [pA b,pI d] u0 K:= VC [5] [] [] [] [] [] [] func171 h
theorem yL.c{u:Fl}{b:Lq}(h: ak (α:=(Fl×Lq)×Int) (λw a m=> ab (decide (a.2<((List.length b:Nat):Int))) (0<=a.2/\∃(l:List PV),(b)[Int.toNat a.2]?=some l/\ ∃n o p A q B r s C t,ay l 0 7=some [pI n,pB o,pS p,.list 6 A q,.list 6 B r,pB s,.list 7 C t]/\ aa prog 164 [.agg [pI n,pB o,pS p,.list 6 .sh q,.list 6 .sh r,pB s,.list 7 .sh t]] m λz x=> ∃d e f D g E i j F k,z=(.agg [pI d,pB e,pS f,.list 6 D g,.list 6 E i,pB j,.list 7 F k])/\ aV false 7 112 a.1.1 a.1.2 [[pI d,pB e,pS f,.list 6 .sh g,.list 6 .sh i,pB j,.list 7 .sh k]] x λv y=> w ((v,(a.1.2++[[pI d,pB e,pS f,.list 6 .sh g,.list 6 .sh i,pB j,.list 7 .sh k]])),(IntKind.wrap .i64 (a.2+1))) y) (K (.list 7 a.1.1 a.1.2) m)) ((.nil,[]),0) u0):aa prog 173 [.list 7 u b] u0 K:= VC [5] [(3,⟨[(3,.one (.list 7)),(8,.one (.raw (.int .i64)))],[]⟩)] [] [] [] [] [] func173 h
theorem tu.c{F:Fl}{f:Lq}(h: ak (α:=(Option Addr×Nat×Nat)×Int) (λL a o=> ab (decide (a.2<((List.length f:Nat):Int))) (bZ (α:=Int) (λl=> ak (α:=Int) (λM d j=> ab (decide (d>0)) (0<=a.2/\∃(m:List PV),(f)[Int.toNat a.2]?=some m/\ ∃r q,ay m 0 1=some [.list 1 r q]/\ cK a.1.1 λG O=> 0<=(IntKind.wrap .i64 (d-1))/\(IntKind.wrap .i64 (d-1))<((a.1.2.1:Nat):Int)/\ ∃t s,aB j G (O+Int.toNat (IntKind.wrap .i64 (d-1))*3) 1=some [.list 1 t s]/\ aa prog 112 [.list 1 r q,.list 1 t s] j λX p=> ∃u,X=(pB u)/\ ab u (M (IntKind.wrap .i64 (d-1)) p) (l d p)) (l d j)) ((a.1.2.1:Nat):Int) o) (λi T=> lZ 3 56 170 a.1.1 a.1.2.1 a.1.2.2 (.list 3 .nr [[.list 1 .sh [],.list 4 .sh [],pI 0]]) T λg e S U=> ak (α:=Int) (λN b k=> ab (decide (b>i)) (cK g λH P=> 0<=(IntKind.wrap .i64 (b-1))/\(IntKind.wrap .i64 (b-1))<((e:Nat):Int)/\ ∃w v y x z,aB k H (P+Int.toNat (IntKind.wrap .i64 (b-1))*3) 3=some [.list 1 w v,.list 4 y x,pI z]/\ cK g λI Q=> 0<=b/\b<((e:Nat):Int)/\ stM I (Q+Int.toNat b*3) [.list 1 w v,.list 4 y x,pI z] k λV=> N (IntKind.wrap .i64 (b-1)) V) (0<=a.2/\∃(n:List PV),(f)[Int.toNat a.2]?=some n/\ ∃B A D C E,ay n 0 3=some [.list 1 B A,.list 4 D C,pI E]/\ cK g λJ R=> 0<=i/\i<((e:Nat):Int)/\ stM J (R+Int.toNat i*3) [.list 1 B A,.list 4 D C,pI E] k λW=> L ((g,e,S),(IntKind.wrap .i64 (a.2+1))) W)) (IntKind.wrap .i64 (((e:Nat):Int)-1)) U)) (K (pV a.1.1 a.1.2.1 a.1.2.2) o)) ((none,0,0),0) u0):aa prog 174 [.list 3 F f] u0 K:= VC [] [(3,⟨[(3,.one (.raw .slice)),(4,.one (.raw (.int .i64)))],[]⟩),(6,⟨[(5,.one (.raw (.int .i64)))],[]⟩),(10,⟨[(6,.one (.raw (.int .i64)))],[]⟩)] [(8,⟨[(5,.one (.raw (.int .i64)))],[]⟩)] [] [] [] [2,3,13,23,33,36,37,45,47,53,60] func174 h
theorem od.c{p Z:Int}{T X:Bool}{U:ByteArray}{d7 d8 Y d9 a0:Fl}{V W w j q:Lq}{x:Option Addr}(h: ab (p == 3) (ak (α:=(Fl×Lq)×Int) (λf6 i b1=> ab (decide (i.2<((List.length j:Nat):Int))) (0<=i.2/\∃(a7:List PV),(j)[Int.toNat i.2]?=some a7/\ ∃j0 N,ay a7 1 1=some [.list 4 j0 N]/\ aV false 3 56 i.1.1 i.1.2 [[.list 1 .sh [],.list 4 .sh N,pI i.2]] b1 λf4 f8=> f6 ((f4,(i.1.2++[[.list 1 .sh [],.list 4 .sh N,pI i.2]])),(IntKind.wrap .i64 (i.2+1))) f8) (aa prog 113 [.list 7 Y w,pI (IntKind.wrap .i64 (Z+1)),.list 3 i.1.1 i.1.2,.list 12 a0 q,pA x] b1 λi4 g6=> ∃c0 b9,i4=(.list 3 c0 b9)/\ ak (α:=(Fl×Lq)×Int) (λa4 g b4=> ab (decide (g.2<((List.length j:Nat):Int))) (aa prog 240 [.list 3 c0 b9,pI g.2] b4 λi5 b6=> ∃c1,i5=(pB c1)/\ ab (!c1) (0<=g.2/\∃(a8:List PV),(j)[Int.toNat g.2]?=some a8/\ ∃j1 O j2 P Q,ay a8 0 3=some [.list 1 j1 O,.list 4 j2 P,pI Q]/\ aV false 3 56 g.1.1 g.1.2 [[.list 1 .sh O,.list 4 .sh P,pI Q]] b6 λf5 i2=> a4 ((f5,(g.1.2++[[.list 1 .sh O,.list 4 .sh P,pI Q]])),(IntKind.wrap .i64 (g.2+1))) i2) (a4 ((g.1.1,g.1.2),(IntKind.wrap .i64 (g.2+1))) b6)) (K (.list 3 g.1.1 g.1.2) b4)) ((.nil,[]),0) g6)) ((.nil,[]),0) u0) (ak (α:=(Fl×Lq)×Int) (λy f b7=> ab (decide (f.2<((List.length j:Nat):Int))) (bZ (α:=(Fl×Lq)×Bool) (λR=> ak (α:=(Fl×Lq)×Bool×Int) (λz a u=> bZ (α:=Unit) (λS=> ab (decide (a.2.2<((List.length q:Nat):Int))) (ab (p == 1) (S () u) (ab a.2.1 (S () u) (R ((a.1.1,a.1.2),a.2.1) u))) (R ((a.1.1,a.1.2),a.2.1) u)) (λk3 i3=> 0<=a.2.2/\∃(a9:List PV),(q)[Int.toNat a.2.2]?=some a9/\ ∃c2 c3 c4 c5 c6 c7 c8 c9 d0 d1 d2 d3,ay a9 0 12=some [pI c2,pS c3,pI c4,pI c5,pS c6,pI c7,pI c8,pS c9,pI d0,pB d1,pB d2,pI d3]/\ 0<=f.2/\∃(b0:List PV),(j)[Int.toNat f.2]?=some b0/\ ∃d5 d4,ay b0 1 1=some [.list 4 d5 d4]/\ aa prog 51 [.agg [pI p,pB T,pS U,.list 6 .sh V,.list 6 .sh W,pB X,.list 7 .sh w],.agg [pI c2,pS c3,pI c4,pI c5,pS c6,pI c7,pI c8,pS c9,pI d0,pB d1,pB d2,pI d3],.list 4 d5 d4] i3 λi6 n=> ∃j3 e d6,i6=(.aD [.list 4 j3 e,pB d6])/\ ab (!d6) (z ((a.1.1,a.1.2),a.2.1,(IntKind.wrap .i64 (a.2.2+1))) n) (ab (p == 1) (bZ (α:=(Fl×Lq)) (λk=> 0<=f.2/\∃(a5:List PV),(j)[Int.toNat f.2]?=some a5/\ ∃i7 b,ay a5 0 1=some [.list 1 i7 b]/\ 0<=a.2.2/\∃(t:List PV),(q)[Int.toNat a.2.2]?=some t/\ 0<=f.2/\∃(l:List PV),(j)[Int.toNat f.2]?=some l/\ (∃d,ay t 11 1=some [pI d]/\ (∃s,ay l 2 1=some [pI s]/\ (aV false 1 8 .nil [] b n λe1 f9=> ((aV false 1 8 e1 ([]++b) [[pI d]] f9 λj4 g0=> ((aV false 3 56 a.1.1 a.1.2 [[.list 1 .sh (([]++b)++[[pI d]]),.list 4 .sh e,pI s]] g0 λe4 g1=> k (e4,(a.1.2++[[.list 1 .sh (([]++b)++[[pI d]]),.list 4 .sh e,pI s]])) g1)/\ True)/\ True)/\ True)/\ True)/\ ((aV false 1 8 .nil [] b n λe2 g2=> (aV false 1 8 e2 ([]++b) [[pI d]] g2 λj5 g3=> ((aV false 3 56 a.1.1 a.1.2 [[.list 1 .sh (([]++b)++[[pI d]]),.list 4 .sh e,pI s]] g3 λe5 g4=> k (e5,(a.1.2++[[.list 1 .sh (([]++b)++[[pI d]]),.list 4 .sh e,pI s]])) g4)/\ True)/\ True)/\ True)/\ True)/\ True)/\ (aV false 1 8 .nil [] b n λa1 b2=> (∃C,ay l 2 1=some [pI C]/\ ((aV false 1 8 a1 ([]++b) [[pI d]] b2 λj6 g5=> ((aV false 3 56 a.1.1 a.1.2 [[.list 1 .sh (([]++b)++[[pI d]]),.list 4 .sh e,pI C]] g5 λe6 g7=> k (e6,(a.1.2++[[.list 1 .sh (([]++b)++[[pI d]]),.list 4 .sh e,pI C]])) g7)/\ True)/\ True)/\ True)/\ True)/\ ((aV false 1 8 a1 ([]++b) [[pI d]] b2 λj7 g8=> ∃D,ay l 2 1=some [pI D]/\ ((aV false 3 56 a.1.1 a.1.2 [[.list 1 .sh (([]++b)++[[pI d]]),.list 4 .sh e,pI D]] g8 λe7 g9=> k (e7,(a.1.2++[[.list 1 .sh (([]++b)++[[pI d]]),.list 4 .sh e,pI D]])) g9)/\ True)/\ True)/\ True)/\ True)/\ ((aV false 1 8 .nil [] b n λa2 b3=> (∃E,ay l 2 1=some [pI E]/\ (aV false 1 8 a2 ([]++b) [[pI d]] b3 λj8 h0=> ((aV false 3 56 a.1.1 a.1.2 [[.list 1 .sh (([]++b)++[[pI d]]),.list 4 .sh e,pI E]] h0 λe8 h1=> k (e8,(a.1.2++[[.list 1 .sh (([]++b)++[[pI d]]),.list 4 .sh e,pI E]])) h1)/\ True)/\ True)/\ True)/\ (aV false 1 8 a2 ([]++b) [[pI d]] b3 λj9 h2=> ∃F,ay l 2 1=some [pI F]/\ ((aV false 3 56 a.1.1 a.1.2 [[.list 1 .sh (([]++b)++[[pI d]]),.list 4 .sh e,pI F]] h2 λe9 h3=> k (e9,(a.1.2++[[.list 1 .sh (([]++b)++[[pI d]]),.list 4 .sh e,pI F]])) h3)/\ True)/\ True)/\ True)/\ True)/\ True)/\ (∃G,ay l 2 1=some [pI G]/\ (aV false 1 8 .nil [] b n λe3 h4=> ∃v,ay t 11 1=some [pI v]/\ ((aV false 1 8 e3 ([]++b) [[pI v]] h4 λk0 h5=> ((aV false 3 56 a.1.1 a.1.2 [[.list 1 .sh (([]++b)++[[pI v]]),.list 4 .sh e,pI G]] h5 λf0 h6=> k (f0,(a.1.2++[[.list 1 .sh (([]++b)++[[pI v]]),.list 4 .sh e,pI G]])) h6)/\ True)/\ True)/\ True)/\ True)/\ True)/\ (aV false 1 8 .nil [] b n λa3 b5=> ∃o,ay t 11 1=some [pI o]/\ (∃H,ay l 2 1=some [pI H]/\ ((aV false 1 8 a3 ([]++b) [[pI o]] b5 λk1 h7=> ((aV false 3 56 a.1.1 a.1.2 [[.list 1 .sh (([]++b)++[[pI o]]),.list 4 .sh e,pI H]] h7 λf1 h8=> k (f1,(a.1.2++[[.list 1 .sh (([]++b)++[[pI o]]),.list 4 .sh e,pI H]])) h8)/\ True)/\ True)/\ True)/\ True)/\ ((aV false 1 8 a3 ([]++b) [[pI o]] b5 λk2 h9=> ∃I,ay l 2 1=some [pI I]/\ ((aV false 3 56 a.1.1 a.1.2 [[.list 1 .sh (([]++b)++[[pI o]]),.list 4 .sh e,pI I]] h9 λf2 i0=> k (f2,(a.1.2++[[.list 1 .sh (([]++b)++[[pI o]]),.list 4 .sh e,pI I]])) i0)/\ True)/\ True)/\ True)/\ True)/\ True) (λr A=> nP x λe0 f7=> ∃b8,aB A e0 (f7+1) 1=some [pI b8]/\ ab (decide (((List.length r.2:Nat):Int)>b8)) (K (.list 3 r.1 r.2) A) (z ((r.1,r.2),false,(IntKind.wrap .i64 (a.2.2+1))) A))) (z ((a.1.1,a.1.2),false,(IntKind.wrap .i64 (a.2.2+1))) n)))) ((f.1.1,f.1.2),true,0) b7) (λm B=> ab (p == 2) (ab m.2 (0<=f.2/\∃(a6:List PV),(j)[Int.toNat f.2]?=some a6/\ ∃i8 J i9 L M,ay a6 0 3=some [.list 1 i8 J,.list 4 i9 L,pI M]/\ aV false 3 56 m.1.1 m.1.2 [[.list 1 .sh J,.list 4 .sh L,pI M]] B λf3 i1=> y ((f3,(m.1.2++[[.list 1 .sh J,.list 4 .sh L,pI M]])),(IntKind.wrap .i64 (f.2+1))) i1) (y ((m.1.1,m.1.2),(IntKind.wrap .i64 (f.2+1))) B)) (y ((m.1.1,m.1.2),(IntKind.wrap .i64 (f.2+1))) B))) (K (.list 3 f.1.1 f.1.2) b7)) ((.nil,[]),0) u0)):aa prog 175 [.agg [pI p,pB T,pS U,.list 6 d7 V,.list 6 d8 W,pB X,.list 7 Y w],pI Z,.list 3 d9 j,.list 12 a0 q,pA x] u0 K:= VC [5,1000026] [(5,⟨[(12,.one (.list 3)),(13,.one (.raw (.int .i64)))],[]⟩),(10,⟨[(11,.one (.list 3)),(14,.one (.raw (.int .i64)))],[]⟩),(16,⟨[(11,.one (.list 3)),(15,.one (.raw (.int .i64)))],[]⟩),(20,⟨[(11,.one (.list 3)),(16,.one (.raw .bool)),(17,.one (.raw (.int .i64)))],[]⟩)] [(22,⟨[],[]⟩),(27,⟨[(11,.one (.list 3))],[]⟩),(29,⟨[(11,.one (.list 3)),(16,.one (.raw .bool))],[]⟩)] [] [] [] [] func175 h
theorem pz.c{a:Option Addr}{b f:Int}(h: ak (α:=Unit) (λy T d=> nP a λp z=> ∃R o S,aB d p z 1=some [pV R o S]/\ ab (decide ((((o:Nat):Int):Int)<=b)) (nP a λq A=> ∃g j i,aB d q A 1=some [pV g j i]/\ lZ 1 8 3 g j i (.list 1 .nr [[pI 0]]) d λI L J M=> nP a λr B=> stM r B [pV I L J] M λN=> y () N) (nP a λs C=> ∃k l Q,aB d s C 1=some [pV k l Q]/\ cK k λt D=> 0<=b/\b<((l:Nat):Int)/\ stM t (D+Int.toNat b*1) [pI f] d λe=> nP a λu E=> ∃m,aB e u (E+2) 1=some [pB m]/\ ab m (nP a λv F=> stM v (F+2) [pB true] e λO=> K (.aD []) O) (nP a λw G=> ∃n,aB e w (G+1) 1=some [pI n]/\ nP a λx H=> stM x (H+2) [pB (decide (f>n))] e λP=> K (.aD []) P))) () u0):aa prog 176 [pA a,pI b,pI f] u0 K:= VC [] [(0,⟨[],[]⟩)] [] [] [] [] [8,9,16,17,19,21,24,25] func176 h
theorem yQ.c{m:Fl}{b:Lq}{e:ByteArray}(h: ak (α:=Int) (λn a d=> ab (decide (a<((List.length b:Nat):Int))) (0<=a/\∃(f:List PV),(b)[Int.toNat a]?=some f/\ ∃i,ay f 0 1=some [pS i]/\ ab (aJ i e) (0<=a/\∃(g:List PV),(b)[Int.toNat a]?=some g/\ ∃j k l,ay g 1 3=some [pI j,pS k,pI l]/\ K (.aD [.agg [pI j,pS k,pI l],pB true]) d) (n (IntKind.wrap .i64 (a+1)) d)) (K (.aD [.agg [pI 0,pS ⟨#[]⟩,pI 0],pB false]) d)) (0) u0):aa prog 177 [.list 4 m b,pS e] u0 K:= VC [4] [(2,⟨[(6,.one (.raw (.int .i64)))],[(4,3)]⟩)] [] [] [] [] [] func177 h
theorem wM.c{g:Fl}{a:Lq}{b e:ByteArray}{d f:Int}(h: (aV true 4 48 .nil [] a u0 λk m=> aV false 4 48 k ([]++a) [[pS b,pI d,pS e,pI f]] m λi n=> K (.list 4 i (([]++a)++[[pS b,pI d,pS e,pI f]])) n)/\ (aV true 4 48 .nil [] a u0 λl o=> aV false 4 48 l ([]++a) [[pS b,pI d,pS e,pI f]] o λj p=> K (.list 4 j (([]++a)++[[pS b,pI d,pS e,pI f]])) p)):aa prog 178 [.list 4 g a,pS b,.agg [pI d,pS e,pI f]] u0 K:= VC [5] [] [] [] [] [] [] func178 h
theorem uC.c{b f d g e:Int}{j k:ByteArray}(h: bZ (α:=Bool) (λl=> ab (f == 2) (l (g == 2) u0) (l false u0)) (λi a=> ab (b == 1) (K (pB ((f == g)&&(aJ j k&&((d == e)&&true)))) a) (ab (b == 2) (K (pB (!((f == g)&&(aJ j k&&((d == e)&&true))))) a) (ab (b == 3) (ab i (K (pB (decide (d<e))) a) (K (pB false) a)) (ab (b == 4) (ab i (K (pB (decide (d<=e))) a) (K (pB false) a)) (ab (b == 5) (ab i (K (pB (decide (d>e))) a) (K (pB false) a)) (ab (b == 6) (ab i (K (pB (decide (d>=e))) a) (K (pB false) a)) (ab (b == 7) (K (pB (f == g)) a) (K (pB false) a))))))))):aa prog 179 [pI b,.agg [pI f,pS j,pI d],.agg [pI g,pS k,pI e]] u0 K:= VC [4,5] [] [(2,⟨[(7,.one (.raw .bool))],[]⟩)] [] [] [] [] func179 h
theorem rv.c{p:Fl}{b:Lq}(h: ak (α:=(Fl×Lq)×Int) (λr a m=> ab (decide (a.2<((List.length b:Nat):Int))) (0<=a.2/\∃(k:List PV),(b)[Int.toNat a.2]?=some k/\ ∃d e f g i w v,ay k 0 6=some [pI d,pS e,pI f,pS g,pI i,.list 3 w v]/\ 0<=a.2/\∃(l:List PV),(b)[Int.toNat a.2]?=some l/\ ∃o n,ay l 5 1=some [.list 3 o n]/\ aa prog 243 [.list 3 o n] m λu s=> ∃x j,u=(.list 3 x j)/\ aV false 6 80 a.1.1 a.1.2 [[pI d,pS e,pI f,pS g,pI i,.list 3 .sh j]] s λq t=> r ((q,(a.1.2++[[pI d,pS e,pI f,pS g,pI i,.list 3 .sh j]])),(IntKind.wrap .i64 (a.2+1))) t) (K (.list 6 a.1.1 a.1.2) m)) ((.nil,[]),0) u0):aa prog 186 [.list 6 p b] u0 K:= VC [5] [(3,⟨[(3,.one (.list 6)),(4,.one (.raw (.int .i64)))],[]⟩)] [] [] [] [] [] func186 h
theorem NM.c{b:ByteArray}(h: ab (decide ((((ByteArray.size b:Nat):Int):Int)<1)) (K (pB false) u0) (ab (decide ((((ByteArray.size b:Nat):Int):Int)>32)) (K (pB false) u0) ((0:Int)<=0/\∃VB:UInt8,b[Int.toNat 0]?=some VB/\ aa prog 244 [.raw (.int .u8 ((UInt8.toNat VB:Nat):Int))] u0 λm f=> ∃j,m=(pB j)/\ ab (!j) (K (pB false) f) (ak (α:=Int) (λd a g=> ab (decide (a<((ByteArray.size b:Nat):Int))) (0<=a/\∃c26:UInt8,b[Int.toNat a]?=some c26/\ aa prog 244 [.raw (.int .u8 ((UInt8.toNat c26:Nat):Int))] g λn i=> ∃k,n=(pB k)/\ ab (!k) (0<=a/\∃c32:UInt8,b[Int.toNat a]?=some c32/\ aa prog 245 [.raw (.int .u8 ((UInt8.toNat c32:Nat):Int))] i λo e=> ∃l,o=(pB l)/\ ab (!l) (0<=a/\∃c39:UInt8,b[Int.toNat a]?=some c39/\ ab ((((UInt8.toNat c39:Nat):Int):Int) != 45) (0<=a/\∃c45:UInt8,b[Int.toNat a]?=some c45/\ ab ((((UInt8.toNat c45:Nat):Int):Int) != 95) (K (pB false) e) (d (IntKind.wrap .i64 (a+1)) e)) (d (IntKind.wrap .i64 (a+1)) e)) (d (IntKind.wrap .i64 (a+1)) e)) (d (IntKind.wrap .i64 (a+1)) i)) (K (pB true) g)) (1) f)))):aa prog 187 [pS b] u0 K:= VC [] [(4,⟨[(3,.one (.raw (.int .i64)))],[]⟩)] [] [] [] [] [] func187 h
theorem yH.c{y:Fl}{b:Lq}{k d:Int}{e:Fn}{f g:List PV}(h: ak (α:=Int×Int) (λz a m=> ab (decide (a.2<((List.length b:Nat):Int))) (0<=a.2/\∃(l:List PV),(b)[Int.toNat a.2]?=some l/\ ∃p q r C s D t u v i,ay l 0 7=some [pI p,pB q,pS r,.list 6 C s,.list 6 D t,pB u,.list 7 v i]/\ bY prog (.fn e f g) [pI a.1,pI d,.agg [pI p,pB q,pS r,.list 6 .sh s,.list 6 .sh t,pB u,.list 7 .sh i]] m λA n=> ∃w,A=(pB w)/\ ab (!w) (K (.aD [pI a.1,pB false]) n) (aa prog 188 [.list 7 v i,pI (IntKind.wrap .i64 (a.1+1)),pI (IntKind.wrap .i64 (d+1)),.fn e f g] n λB o=> ∃j x,B=(.aD [pI j,pB x])/\ ab (!x) (K (.aD [pI j,pB false]) o) (z (j,(IntKind.wrap .i64 (a.2+1))) o))) (K (.aD [pI a.1,pB true]) m)) (k,0) u0):aa prog 188 [.list 7 y b,pI k,pI d,.fn e f g] u0 K:= VC [11] [(2,⟨[(1,.one (.raw (.int .i64))),(15,.one (.raw (.int .i64)))],[]⟩)] [] [] [] [] [] func188 h
theorem BD.c{b f g:Int}{i o:Bool}{j:ByteArray}{l n q:Fl}{k m p:Lq}{a:Nat}(h: stM a 0 [pI (IntKind.wrap .i64 (b+1))] u0 λd=> ∃e,aB d a 0 1=some [pI e]/\ K (pB (decide (e<=16))) d):aa prog 189 [pI b,pI f,.agg [pI g,pB i,pS j,.list 6 l k,.list 6 n m,pB o,.list 7 q p],pP a 0] u0 K:= VC [6] [] [] [] [] [] [] func189 h
theorem BC.c{d e f:Int}{g l:Bool}{i:ByteArray}{t u v:Fl}{j k m:Lq}{a n:Nat}(h: aa prog 191 [.agg [pI f,pB g,pS i,.list 6 .sh j,.list 6 .sh k,pB l,.list 7 .sh m],pI e] u0 λx w=> ∃p,x=(pI p)/\ stM a 0 [pI p] w λb=> ∃q,aB b a 0 1=some [pI q]/\ ab (q != 0) (stM n 0 [pI d] b λo=> ∃r,aB o a 0 1=some [pI r]/\ K (pB (r == 0)) o) (∃s,aB b a 0 1=some [pI s]/\ K (pB (s == 0)) b)):aa prog 190 [pI d,pI e,.agg [pI f,pB g,pS i,.list 6 t j,.list 6 u k,pB l,.list 7 v m],pP a 0,pP n 0] u0 K:= VC [7] [] [] [] [] [] [] func190 h
theorem IG.c{a n:Int}{j m:Bool}{f:ByteArray}{k l u:Fl}{b e g:Lq}(h: bZ (α:=Unit) (λi=> ab (a == 3) (ab j (K (pI 9) u0) (ab (!aJ f ⟨#[]⟩) (K (pI 9) u0) (ab (decide (((List.length b:Nat):Int)>0)) (K (pI 9) u0) (ab (decide (((List.length e:Nat):Int)>0)) (K (pI 9) u0) (ab m (K (pI 9) u0) (ab (((List.length g:Nat):Int) == 0) (K (pI 9) u0) (ab (decide (n>=3)) (K (pI 8) u0) (K (pI 0) u0)))))))) (ab (a == 1) (ab (a == 1) (i () u0) (K (pI 9) u0)) (ab (a == 2) (i () u0) (K (pI 9) u0)))) (λy o=> ab (decide (((List.length g:Nat):Int)>0)) (K (pI 9) o) (aa prog 187 [pS f] o λv d=> ∃r,v=(pB r)/\ ab (!r) (K (pI 9) d) (ab (((List.length b:Nat):Int) == 0) (K (pI 9) d) (ab (decide (((List.length b:Nat):Int)>4)) (K (pI 7) d) (ab (decide (((List.length e:Nat):Int)>4)) (K (pI 7) d) (aa prog 246 [.list 6 k b] d λw p=> ∃s,w=(pB s)/\ ab (!s) (K (pI 9) p) (aa prog 246 [.list 6 l e] p λx q=> ∃t,x=(pB t)/\ ab (!t) (K (pI 9) q) (K (pI 0) q))))))))):aa prog 191 [.agg [pI a,pB j,pS f,.list 6 k b,.list 6 l e,pB m,.list 7 u g],pI n] u0 K:= VC [2] [] [(11,⟨[],[]⟩)] [] [] [] [] func191 h
theorem Lu.c{i j l o q s u d f:ByteArray}{k m n p r t v a e g:Int}(h: aa prog 187 [pS i] u0 λH w=> ∃E,H=(pB E)/\ ab (!E) (K (pB false) w) (aa prog 247 [.agg [pS j,pI k,pS l,pI m]] w λI x=> ∃z,I=(pB z)/\ ab (!z) (K (pB false) x) (aa prog 248 [.agg [pI n,pS o,pI p,pS q,pI r,pS s,pI t,pS u,pI v]] x λJ b=> ∃A,J=(pB A)/\ ab (!A) (K (pB false) b) (ab (decide (a<1)) (K (pB false) b) (ab (decide (a>10)) (K (pB false) b) (aa prog 249 [pI a] b λL y=> ∃B,L=(pB B)/\ ab B (aa prog 247 [.agg [pS d,pI e,pS f,pI g]] y λM F=> ∃C,M=(pB C)/\ K (pB C) F) (aa prog 250 [.agg [pS d,pI e,pS f,pI g]] y λN G=> ∃D,N=(pB D)/\ K (pB D) G))))))):aa prog 192 [.agg [pS i,pS j,pI k,pS l,pI m,pI n,pS o,pI p,pS q,pI r,pS s,pI t,pS u,pI v,pI a,pS d,pI e,pS f,pI g]] u0 K:= VC [1] [] [] [] [] [] [] func192 h
theorem oo.c{a:Option Addr}{f:ByteArray}(h: ab (Option.isNone a) (K (pB false) u0) (aa prog 251 [pA a,pS f] u0 λW g=> ∃e k,W=(.aD [pI e,pB k])/\ ab k (K (pB false) g) (aa prog 252 [pA a] g λX i=>
 X=(.aD [])/\ nP a λw G=> ∃l n m,aB i w G 1=some [pV l n m]/\ lZ 1 16 214 l n m (.list 1 .nr [[pS f]]) i λQ S R T=> nP a λx H=> stM x H [pV Q S R] T λj=> nP a λy I=> ∃Y o Z,aB j y I 1=some [pV Y o Z]/\ ak (α:=Int) (λF b d=> ab (decide (b>e)) (nP a λz J=> ∃p q a0,aB d z J 1=some [pV p q a0]/\ nP a λA L=> ∃r s a1,aB d A L 1=some [pV r s a1]/\ cK r λB M=> 0<=(IntKind.wrap .i64 (b-1))/\(IntKind.wrap .i64 (b-1))<((s:Nat):Int)/\ ∃t,aB d B (M+Int.toNat (IntKind.wrap .i64 (b-1))*1) 1=some [pS t]/\ cK p λC N=> 0<=b/\b<((q:Nat):Int)/\ stM C (N+Int.toNat b*1) [pS t] d λU=> F (IntKind.wrap .i64 (b-1)) U) (nP a λD O=> ∃u v a2,aB d D O 1=some [pV u v a2]/\ cK u λE P=> 0<=e/\e<((v:Nat):Int)/\ stM E (P+Int.toNat e*1) [pS f] d λV=> K (pB true) V)) (IntKind.wrap .i64 (((o:Nat):Int)-1)) j))):aa prog 193 [pA a,pS f] u0 K:= VC [] [(9,⟨[(7,.one (.raw (.int .i64)))],[]⟩)] [] [] [] [] [23,32,43,48,57] func193 h
theorem uv.c{a:Option Addr}(h: nP a λe g=> ∃b,aB u0 e g 1=some [pA b]/\ aa prog 253 [pA b] u0 λk i=> ∃d,k=(pA d)/\ bJ i 216 [pA d,.list 1 .nil []] λf j=> K (pP f 0) j):aa prog 194 [pA a] u0 K:= VC [] [] [] [] [] [] [] func194 h
theorem yI.c{a:Option Addr}{p:Int}{e q:Bool}{b:ByteArray}{g j s:Fl}{f i r:Lq}(h: bZ (α:=Unit) (λd=> ab e (aa prog 254 [pA a,pS b] u0 λw u=>
 w=(.aD [])/\ d () u) (d () u0)) (λA t=> aa prog 196 [pA a,pS b] t λx k=> ∃m,x=(pB m)/\ ab m (aa prog 255 [pA a,.list 6 g f] k λy l=> ∃n,y=(pB n)/\ ab n (aa prog 255 [pA a,.list 6 j i] l λz v=> ∃o,z=(pB o)/\ K (pB o) v) (K (pB false) l)) (K (pB false) k))):aa prog 195 [pA a,.agg [pI p,pB e,pS b,.list 6 g f,.list 6 j i,pB q,.list 7 s r]] u0 K:= VC [3] [] [(3,⟨[],[]⟩)] [] [] [] [] func195 h
theorem yK.c{a:Option Addr}{b:ByteArray}(h: nP a λf g=> ∃d,aB u0 f g 1=some [pA d]/\ aa prog 256 [pA d,pS b] u0 λj i=> ∃k e,j=(.aD [pI k,pB e])/\ K (pB e) i):aa prog 196 [pA a,pS b] u0 K:= VC [] [] [] [] [] [] [] func196 h
theorem wW.c{a:Int}(h: ab (decide (a>=97)) (ab (decide (a<=122)) (K (pB true) u0) (ab (decide (a>=48)) (ab (decide (a<=57)) (K (pB true) u0) (ab (a == 45) (K (pB true) u0) (K (pB (a == 95)) u0))) (ab (a == 45) (K (pB true) u0) (K (pB (a == 95)) u0)))) (ab (decide (a>=48)) (ab (decide (a<=57)) (K (pB true) u0) (ab (a == 45) (K (pB true) u0) (K (pB (a == 95)) u0))) (ab (a == 45) (K (pB true) u0) (K (pB (a == 95)) u0)))):aa prog 201 [.raw (.int .u8 a)] u0 K:= VC [] [] [] [] [] [] [] func201 h
theorem wT.c{d m:Int}{i l:Bool}{f:ByteArray}{j k s:Fl}{a e g:Lq}(h: ab (decide (d<1)) (K (pI 9) u0) (ab (decide (d>3)) (K (pI 9) u0) (ab (d == 3) (ab i (K (pI 9) u0) (ab (!aJ f ⟨#[]⟩) (K (pI 9) u0) (ab (decide (((List.length a:Nat):Int)>0)) (K (pI 9) u0) (ab (decide (((List.length e:Nat):Int)>0)) (K (pI 9) u0) (ab l (K (pI 9) u0) (ab (((List.length g:Nat):Int) == 0) (K (pI 9) u0) (ab (decide (m>=3)) (K (pI 8) u0) (K (pI 0) u0)))))))) (ab (decide (((List.length g:Nat):Int)>0)) (K (pI 9) u0) (aa prog 136 [pS f] u0 λt b=> ∃p,t=(pB p)/\ ab (!p) (K (pI 9) b) (ab (((List.length a:Nat):Int) == 0) (K (pI 9) b) (ab (decide (((List.length a:Nat):Int)>4)) (K (pI 7) b) (ab (decide (((List.length e:Nat):Int)>4)) (K (pI 7) b) (aa prog 259 [.list 6 j a] b λu n=> ∃q,u=(pB q)/\ ab (!q) (K (pI 9) n) (aa prog 259 [.list 6 k e] n λv o=> ∃r,v=(pB r)/\ ab (!r) (K (pI 9) o) (K (pI 0) o))))))))))):aa prog 202 [.agg [pI d,pB i,pS f,.list 6 j a,.list 6 k e,pB l,.list 7 s g],pI m] u0 K:= VC [2] [] [] [] [] [] [] func202 h
theorem wU.c{a d:ByteArray}{b e:Int}(h: ab (!aJ a ⟨#[]⟩) (aa prog 136 [pS a] u0 λk f=> ∃i,k=(pB i)/\ ab i (K (pB ((b == 0)&&(aJ d ⟨#[]⟩&&((e == 0)&&true)))) f) (K (pB false) f)) (aa prog 162 [.agg [pI b,pS d,pI e]] u0 λl j=> ∃g,l=(pB g)/\ K (pB g) j)):aa prog 203 [.agg [pS a,pI b,pS d,pI e]] u0 K:= VC [1] [] [] [] [] [] [] func203 h
theorem ic.c{a d:Int}{b:ByteArray}(h: K (.agg [pI a,pS b,pI d,pA none]) u0):aa prog 207 [.agg [pI a,pS b,pI d]] u0 K:= VC [1,2] [] [] [] [] [] [] func207 h
theorem g_.c{a:Option Addr}(h: K (.fn (.func 267) [] [.bn [pA a] 0]) u0):aa prog 212 [pA a] u0 K:= VC [] [] [] [] [1] [] [] func212 h
theorem Fy.c{a i k l n o q t:Int}{b f r s:Bool}{v j m p:ByteArray}{w x y:Fl}{d e g:Lq}(h: aa prog 232 [.agg [pI a,pB b,pS ⟨#[120]⟩,.list 6 .sh d,.list 6 .sh e,pB f,.list 7 .sh g],.agg [pI i,pS j,pI k,pI l,pS m,pI n,pI o,pS p,pI q,pB r,pB s,pI t],.list 4 .nil []] u0 λA z=> ∃C B u,A=(.aD [.list 4 C B,pB u])/\ K (pB u) z):aa prog 213 [.agg [pI a,pB b,pS v,.list 6 w d,.list 6 x e,pB f,.list 7 y g],.agg [pI i,pS j,pI k,pI l,pS m,pI n,pI o,pS p,pI q,pB r,pB s,pI t]] u0 K:= VC [2,3] [] [] [] [] [] [] func213 h
theorem Lr.c{a:Int}(h: ab (decide (a>=65)) (K (pB (decide (a<=90))) u0) (K (pB false) u0)):aa prog 217 [.raw (.int .u8 a)] u0 K:= VC [] [] [] [] [] [] [] func217 h
theorem IL.c{E F:Fl}{e g:Lq}(h: ab (((List.length e:Nat):Int) != ((List.length g:Nat):Int)) (K (pB false) u0) (ak (α:=Int) (λG a d=> ab (decide (a<((List.length e:Nat):Int))) (0<=a/\∃(k:List PV),(e)[Int.toNat a]?=some k/\ ∃o p q r s I f,ay k 0 6=some [pI o,pS p,pI q,pS r,pI s,.list 3 I f]/\ 0<=a/\∃(l:List PV),(g)[Int.toNat a]?=some l/\ ∃t u v w x J j,ay l 0 6=some [pI t,pS u,pI v,pS w,pI x,.list 3 J j]/\ ab (o != t) (K (pB false) d) (ab (!aJ p u) (K (pB false) d) (ab (!((q == v)&&(aJ r w&&((s == x)&&true)))) (K (pB false) d) (ab (((List.length f:Nat):Int) != ((List.length j:Nat):Int)) (K (pB false) d) (ak (α:=Int) (λH b i=> ab (decide (b<((List.length f:Nat):Int))) (0<=b/\∃(m:List PV),(f)[Int.toNat b]?=some m/\ ∃y z A,ay m 0 3=some [pI y,pS z,pI A]/\ 0<=b/\∃(n:List PV),(j)[Int.toNat b]?=some n/\ ∃B C D,ay n 0 3=some [pI B,pS C,pI D]/\ ab (!((y == B)&&(aJ z C&&((A == D)&&true)))) (K (pB false) i) (H (IntKind.wrap .i64 (b+1)) i)) (G (IntKind.wrap .i64 (a+1)) i)) (0) d))))) (K (pB true) d)) (0) u0)):aa prog 221 [.list 6 E e,.list 6 F g] u0 K:= VC [6,7,9] [(4,⟨[(17,.one (.raw (.int .i64)))],[]⟩),(10,⟨[(57,.one (.raw (.int .i64)))],[]⟩)] [] [] [] [] [] func221 h
theorem IK.c{m:Fl}{d:Lq}(h: ak (α:=(Fl×Lq)×Int) (λo a l=> ab (decide (a.2<((List.length d:Nat):Int))) (0<=a.2/\∃(k:List PV),(d)[Int.toNat a.2]?=some k/\ ∃e f g i j r b,ay k 0 6=some [pI e,pS f,pI g,pS i,pI j,.list 3 r b]/\ aV false 3 32 .nil [] b l λs p=> aV false 6 80 a.1.1 a.1.2 [[pI e,pS f,pI g,pS i,pI j,.list 3 .sh ([]++b)]] p λn q=> o ((n,(a.1.2++[[pI e,pS f,pI g,pS i,pI j,.list 3 .sh ([]++b)]])),(IntKind.wrap .i64 (a.2+1))) q) (K (.list 6 a.1.1 a.1.2) l)) ((.nil,[]),0) u0):aa prog 222 [.list 6 m d] u0 K:= VC [5] [(3,⟨[(3,.one (.list 6)),(8,.one (.raw (.int .i64)))],[]⟩)] [] [] [] [] [] func222 h
theorem Eo.c{a:Fn}{b d e:List PV}(h: ∃g f,ay e 0 1=some [.list 7 g f]/\ aa prog 188 [.list 7 g f,pI 0,pI 0,.fn (.func 224) [] [.bn [.fn a b d] 0]] u0 λj i=> ∃k l,j=(.aD [pI k,pB l])/\ K (.aD []) i):aa prog 223 [.fn a b d,.bn e 0] u0 K:= VC [] [] [] [] [2] [] [] func223 h
theorem Ak.c{a p b:Int}{d i:Bool}{e:ByteArray}{q r s:Fl}{f g j:Lq}{k:List PV}(h: ∃m n o,ay k 0 1=some [.fn m n o]/\ bY prog (.fn m n o) [pI a,.agg [pI b,pB d,pS e,.list 6 .sh f,.list 6 .sh g,pB i,.list 7 .sh j]] u0 λu t=> ∃l,u=(pB l)/\ K (pB l) t):aa prog 224 [pI a,pI p,.agg [pI b,pB d,pS e,.list 6 q f,.list 6 r g,pB i,.list 7 s j],.bn k 0] u0 K:= VC [6] [] [] [] [] [] [] func224 h
theorem IN.c{n:Int}{a g:Bool}{o:ByteArray}{d f q:Fl}{b e p:Lq}(h: dz prog 271 [.list 6 d b] u0 λs i=> ∃m l,s=(.list 6 m l)/\ dz prog 271 [.list 6 f e] (Mem.or u0 i) λt r=> ∃k j,t=(.list 6 k j)/\ K (.agg [pI 1,pB a,pS ⟨#[]⟩,.list 6 m l,.list 6 k j,pB g,.list 7 .nil []]) (Mem.or (Mem.or u0 i) r)):aa prog 225 [.agg [pI n,pB a,pS o,.list 6 d b,.list 6 f e,pB g,.list 7 q p]] u0 K:= VC [1,2] [] [] [] [] [] [] func225 h
theorem IM.c{E F:Fl}{e g:Lq}(h: ab (((List.length e:Nat):Int) != ((List.length g:Nat):Int)) (K (pB false) u0) (ak (α:=Int) (λG a d=> ab (decide (a<((List.length e:Nat):Int))) (0<=a/\∃(k:List PV),(e)[Int.toNat a]?=some k/\ ∃o p q r s I f,ay k 0 6=some [pI o,pS p,pI q,pS r,pI s,.list 3 I f]/\ 0<=a/\∃(l:List PV),(g)[Int.toNat a]?=some l/\ ∃t u v w x J j,ay l 0 6=some [pI t,pS u,pI v,pS w,pI x,.list 3 J j]/\ ab (o != t) (K (pB false) d) (ab (!aJ p u) (K (pB false) d) (ab (!((q == v)&&(aJ r w&&((s == x)&&true)))) (K (pB false) d) (ab (((List.length f:Nat):Int) != ((List.length j:Nat):Int)) (K (pB false) d) (ak (α:=Int) (λH b i=> ab (decide (b<((List.length f:Nat):Int))) (0<=b/\∃(m:List PV),(f)[Int.toNat b]?=some m/\ ∃y z A,ay m 0 3=some [pI y,pS z,pI A]/\ 0<=b/\∃(n:List PV),(j)[Int.toNat b]?=some n/\ ∃B C D,ay n 0 3=some [pI B,pS C,pI D]/\ ab (!((y == B)&&(aJ z C&&((A == D)&&true)))) (K (pB false) i) (H (IntKind.wrap .i64 (b+1)) i)) (G (IntKind.wrap .i64 (a+1)) i)) (0) d))))) (K (pB true) d)) (0) u0)):aa prog 226 [.list 6 E e,.list 6 F g] u0 K:= VC [6,7,9] [(4,⟨[(17,.one (.raw (.int .i64)))],[]⟩),(10,⟨[(57,.one (.raw (.int .i64)))],[]⟩)] [] [] [] [] [] func226 h
theorem iU.c{a:Option Addr}(h: K (.fn (.func 276) [] [.bn [pA a] 0]) u0):aa prog 229 [pA a] u0 K:= VC [] [] [] [] [1] [] [] func229 h
theorem NI.c{b:Fl}{a:Lq}(h: aV false 4 48 .nil [] a u0 λd e=> K (.list 4 d ([]++a)) e):aa prog 230 [.list 4 b a] u0 K:= VC [] [] [] [] [] [] [] func230 h
theorem Fk.c{r:Fn}{s t b u v:List PV}(h: bJ u0 345 [.fn r s t] λS U=> ∃a2 a3 a4,ay b 0 1=some [.fn a2 a3 a4]/\ ∃y z A,ay b 0 1=some [.fn y z A]/\ bk prog (.fn y z A) (λY a V=> ∃e f g i j k l m n o p q,Y=[.agg [pI e,pS f,pI g,pI i,pS j,pI k,pI l,pS m,pI n,pB o,pB p,pI q]]/\ ∃B C D Z E a0 F G a1 H,ay u 0 7=some [pI B,pB C,pS D,.list 6 Z E,.list 6 a0 F,pB G,.list 7 a1 H]/\ ∃J I,ay v 0 1=some [.list 4 J I]/\ aa prog 232 [.agg [pI B,pB C,pS D,.list 6 .sh E,.list 6 .sh F,pB G,.list 7 .sh H],.agg [pI e,pS f,pI g,pI i,pS j,pI k,pI l,pS m,pI n,pB o,pB p,pI q],.list 4 J I] V λW d=> ∃M L N,W=(.aD [.list 4 M L,pB N])/\ ab N (∃O P Q,aB d S 0 1=some [.fn O P Q]/\ bY prog (.fn O P Q) [.agg [pI e,pS f,pI g,pI i,pS j,pI k,pI l,pS m,pI n,pB o,pB p,pI q],.list 4 M L] d λX x=> ∃R,X=(pB R)/\ ab (!R) (a (some .ret) x) (a none x)) (a none d)) (λT w=> PK T (K (.aD []) w) (K (.aD []) w) []) U):aa prog 231 [.fn r s t,.bn b 0,.bn u 0,.bn v 0] u0 K:= VC [5] [] [] [(11,[78])] [] [] [] func231 h
theorem Lp.c{e n p q s t v P:Int}{f a b g:Bool}{i o r u:ByteArray}{k m O x:Fl}{j l N w:Lq}(h: bZ (α:=Unit) (λd=> ab (e != 1) (ab (e != 2) (K (.aD [.list 4 .nil [],pB false]) u0) (ab f (ab (!g) (K (.aD [.list 4 .nil [],pB false]) u0) (ab (!(a == b)) (K (.aD [.list 4 .nil [],pB false]) u0) (d () u0))) (ab (!(a == b)) (K (.aD [.list 4 .nil [],pB false]) u0) (d () u0)))) (ab f (ab (!g) (K (.aD [.list 4 .nil [],pB false]) u0) (ab (!(a == b)) (K (.aD [.list 4 .nil [],pB false]) u0) (d () u0))) (ab (!(a == b)) (K (.aD [.list 4 .nil [],pB false]) u0) (d () u0)))) (λW Q=> aa prog 278 [.agg [pI 1,pS i,pI 0,pS ⟨#[]⟩,pI 0,.list 3 .sh []],.agg [pI n,pS o,pI p],.list 4 x w] Q λS y=> ∃C B D,S=(.aD [.list 4 C B,pB D])/\ ab (!D) (K (.aD [.list 4 .nil [],pB false]) y) (aa prog 279 [.list 6 k j,.agg [pI q,pS r,pI s],.list 4 C B] y λT z=> ∃F E G,T=(.aD [.list 4 F E,pB G])/\ ab (!G) (K (.aD [.list 4 .nil [],pB false]) z) (aa prog 279 [.list 6 m l,.agg [pI t,pS u,pI v],.list 4 F E] z λU A=> ∃I H J,U=(.aD [.list 4 I H,pB J])/\ ab (!J) (K (.aD [.list 4 .nil [],pB false]) A) (aa prog 230 [.list 4 I H] A λV R=> ∃M L,V=(.list 4 M L)/\ K (.aD [.list 4 M L,pB true]) R))))):aa prog 232 [.agg [pI e,pB f,pS i,.list 6 k j,.list 6 m l,pB a,.list 7 O N],.agg [pI n,pS o,pI p,pI q,pS r,pI s,pI t,pS u,pI v,pB b,pB g,pI P],.list 4 x w] u0 K:= VC [3,4] [] [(3,⟨[],[]⟩)] [] [] [] [] func232 h
theorem NL.c{l:Fl}{b:Lq}{e:ByteArray}(h: ak (α:=Int) (λm a d=> ab (decide (a<((List.length b:Nat):Int))) (0<=a/\∃(f:List PV),(b)[Int.toNat a]?=some f/\ ∃g i j k,ay f 0 4=some [pS g,pI i,pS j,pI k]/\ ab (aJ g e) (K (.aD [.agg [pI i,pS j,pI k],pB true]) d) (m (IntKind.wrap .i64 (a+1)) d)) (K (.aD [.agg [pI 0,pS ⟨#[]⟩,pI 0],pB false]) d)) (0) u0):aa prog 233 [.list 4 l b,pS e] u0 K:= VC [4,7] [(2,⟨[(10,.one (.raw (.int .i64)))],[(4,3)]⟩)] [] [] [] [] [] func233 h
theorem Ey.c{a:Option Addr}{b:Int}(h: K (.fn (.func 280) [] [.bn [pA a] 0,.bn [pI b] 0]) u0):aa prog 234 [pA a,pI b] u0 K:= VC [] [] [] [] [2,3] [] [] func234 h
theorem wK.c{b:Fn}{d e f g:List PV}(h: bJ u0 171 [.fn b d e] λP i=> ∃N,ay f 0 1=some [pA N]/\ nP N λO Q=> ∃n,aB i O (Q+5) 1=some [pA n]/\ ∃o p q,ay g 0 3=some [pI o,pS p,pI q]/\ aa prog 145 [pA n,.agg [pI o,pS p,pI q]] i λT j=> ∃r s,T=(.aD [pA r,pB s])/\ ab (!s) (K (.aD []) j) (aa prog 87 [pA r] j λU S=> ∃t u v,U=(.fn t u v)/\ bk prog (.fn t u v) (λW a k=> ∃w x y z A B C D E F G H,W=[.agg [pI w,pS x,pI y,pI z,pS A,pI B,pI C,pS D,pI E,pB F,pB G,pI H]]/\ ∃I J L,aB k P 0 1=some [.fn I J L]/\ bY prog (.fn I J L) [.agg [pI w,pS x,pI y,pI z,pS A,pI B,pI C,pS D,pI E,pB F,pB G,pI H]] k λV m=> ∃M,V=(pB M)/\ ab (!M) (a (some .ret) m) (a none m)) (λR l=> PK R (K (.aD []) l) (K (.aD []) l) []) S)):aa prog 235 [.fn b d e,.bn f 0,.bn g 0] u0 K:= VC [6] [] [] [(20,[163])] [] [] [] func235 h
theorem Al.c{d:Option Addr}{e o:Int}{f k:Bool}{g:ByteArray}{E F G n:Fl}{i j l m:Lq}(h: bJ u0 4 [pB false] λa b=> nP d λH J=> ∃u,aB b H J 1=some [pA u]/\ nP d λI L=> ∃U v,aB b I (L+1) 1=some [.list 1 U v]/\ 0<=o/\∃(s:List PV),(v)[Int.toNat o]?=some s/\ ∃w,ay s 0 1=some [pI w]/\ dz prog 168 [pA u,.agg [pI e,pB f,pS g,.list 6 .sh i,.list 6 .sh j,pB k,.list 7 .sh l],.list 4 n m,pI w] b λR N=> ∃x y z,R=(.fn x y z)/\ aa prog 167 [.agg [pI e,pB f,pS g,.list 6 .sh i,.list 6 .sh j,pB k,.list 7 .sh l],.fn x y z,.list 4 n m] (Mem.or b N) λS O=> ∃A B C,S=(.fn A B C)/\ bk prog (.fn A B C) (λT D P=> ∃V W X Y Z a0 a1 a2 a3 a4 a5 a6 a8 a7,T=[.agg [pI V,pS W,pI X,pI Y,pS Z,pI a0,pI a1,pS a2,pI a3,pB a4,pB a5,pI a6],.list 4 a8 a7]/\ stM a 0 [pB true] P λQ=> D (some .ret) Q) (λM p=> PK M (stM a 0 [pB false] p λt=> ∃q,aB t a 0 1=some [pB q]/\ K (pB q) t) (∃r,aB p a 0 1=some [pB r]/\ K (pB r) p) []) O):aa prog 236 [pA d,.agg [pI e,pB f,pS g,.list 6 E i,.list 6 F j,pB k,.list 7 G l],.list 4 n m,pI o] u0 K:= VC [5] [] [] [(26,[78,84])] [] [] [] func236 h
theorem II.c{b:Fl}{a:Lq}(h: aa prog 188 [.list 7 b a,pI 0,pI 0,.fn (.func 282) [] []] u0 λf e=> ∃d g,f=(.aD [pI d,pB g])/\ K (pI d) e):aa prog 237 [.list 7 b a] u0 K:= VC [] [] [] [] [] [] [] func237 h
theorem wN.c{i:Fl}{b:Lq}{e:Int}(h: ak (α:=Int) (λj a d=> ab (decide (a<((List.length b:Nat):Int))) (0<=a/\∃(f:List PV),(b)[Int.toNat a]?=some f/\ ∃g,ay f 2 1=some [pI g]/\ ab (g == e) (K (pB true) d) (j (IntKind.wrap .i64 (a+1)) d)) (K (pB false) d)) (0) u0):aa prog 240 [.list 3 i b,pI e] u0 K:= VC [] [(2,⟨[(5,.one (.raw (.int .i64)))],[]⟩)] [] [] [] [] [] func240 h
theorem oD.c{b:Fl}{a:Lq}(h: aV false 3 32 .nil [] a u0 λd e=> K (.list 3 d ([]++a)) e):aa prog 243 [.list 3 b a] u0 K:= VC [] [] [] [] [] [] [] func243 h
theorem Lq.c{a:Int}(h: ab (decide (a>=97)) (K (pB (decide (a<=122))) u0) (K (pB false) u0)):aa prog 244 [.raw (.int .u8 a)] u0 K:= VC [] [] [] [] [] [] [] func244 h
theorem Ls.c{a:Int}(h: ab (decide (a>=48)) (K (pB (decide (a<=57))) u0) (K (pB false) u0)):aa prog 245 [.raw (.int .u8 a)] u0 K:= VC [] [] [] [] [] [] [] func245 h
theorem Fm.c{o:Fl}{b:Lq}(h: ak (α:=Int) (λp a e=> ab (decide (a<((List.length b:Nat):Int))) (0<=a/\∃(d:List PV),(b)[Int.toNat a]?=some d/\ ∃g i j k l r m,ay d 0 6=some [pI g,pS i,pI j,pS k,pI l,.list 3 r m]/\ aa prog 283 [.agg [pI g,pS i,pI j,pS k,pI l,.list 3 .sh m]] e λq f=> ∃n,q=(pB n)/\ ab (!n) (K (pB false) f) (p (IntKind.wrap .i64 (a+1)) f)) (K (pB true) e)) (0) u0):aa prog 246 [.list 6 o b] u0 K:= VC [4] [(2,⟨[(7,.one (.raw (.int .i64)))],[]⟩)] [] [] [] [] [] func246 h
theorem IH.c{a d:ByteArray}{b e:Int}(h: ab (!aJ a ⟨#[]⟩) (aa prog 187 [pS a] u0 λm f=> ∃j,m=(pB j)/\ ab j (aa prog 284 [.agg [pI b,pS d,pI e]] f λn k=> ∃g,n=(pB g)/\ K (pB g) k) (K (pB false) f)) (aa prog 285 [.agg [pI b,pS d,pI e]] u0 λo l=> ∃i,o=(pB i)/\ K (pB i) l)):aa prog 247 [.agg [pS a,pI b,pS d,pI e]] u0 K:= VC [1] [] [] [] [] [] [] func247 h
theorem IE.c{a i k d f:Int}{g j b e:ByteArray}(h: ab (decide (a<0)) (K (pB false) u0) (ab (decide (a>3)) (K (pB false) u0) (aa prog 247 [.agg [pS g,pI i,pS j,pI k]] u0 λv l=> ∃o,v=(pB o)/\ ab (!o) (K (pB false) l) (ab (a == 0) (aa prog 250 [.agg [pS b,pI d,pS e,pI f]] l λw t=> ∃p,w=(pB p)/\ K (pB p) t) (aa prog 247 [.agg [pS b,pI d,pS e,pI f]] l λx m=> ∃q,x=(pB q)/\ ab q (aa prog 286 [.agg [pS g,pI i,pS j,pI k]] m λy n=> ∃r,y=(pB r)/\ ab (!r) (aa prog 286 [.agg [pS b,pI d,pS e,pI f]] n λz u=> ∃s,z=(pB s)/\ K (pB (!s)) u) (K (pB false) n)) (K (pB false) m)))))):aa prog 248 [.agg [pI a,pS g,pI i,pS j,pI k,pS b,pI d,pS e,pI f]] u0 K:= VC [1] [] [] [] [] [] [] func248 h
theorem Fo.c{a:Int}(h: ab (a == 8) (K (pB true) u0) (ab (a == 9) (K (pB true) u0) (K (pB (a == 10)) u0))):aa prog 249 [pI a] u0 K:= VC [] [] [] [] [] [] [] func249 h
theorem Fp.c{a d:ByteArray}{b e:Int}(h: ab (aJ a ⟨#[]⟩) (aa prog 284 [.agg [pI b,pS d,pI e]] u0 λi g=> ∃f,i=(pB f)/\ K (pB f) g) (K (pB false) u0)):aa prog 250 [.agg [pS a,pI b,pS d,pI e]] u0 K:= VC [1] [] [] [] [] [] [] func250 h
theorem mW.c{d:Option Addr}{i:ByteArray}(h: nP d λo q=> ∃s l,aB u0 o q 1=some [.list 1 s l]/\ ak (α:=Int×Int) (λj a e=> ab (decide (a.1<a.2)) ((2:Int)≠0/\ nP d λp r=> ∃t m,aB e p r 1=some [.list 1 t m]/\ 0<=(IntKind.wrap .i64 (a.1+(IntKind.wrap .i64 (Int.tdiv (IntKind.wrap .i64 (a.2-a.1)) 2))))/\∃(k:List PV),(m)[Int.toNat (IntKind.wrap .i64 (a.1+(IntKind.wrap .i64 (Int.tdiv (IntKind.wrap .i64 (a.2-a.1)) 2))))]?=some k/\ ∃n,ay k 0 1=some [pS n]/\ (∀b,pv prog (method (prog.types.size+Made.depth) 214 b "Compare")=some (339,b))/\ aa prog 339 [pS n,pS i] e λb f=> ∃g,b=(pI g)/\ ab (g == 0) (K (.aD [pI (IntKind.wrap .i64 (a.1+(IntKind.wrap .i64 (Int.tdiv (IntKind.wrap .i64 (a.2-a.1)) 2)))),pB true]) f) (ab (decide (g<0)) (j ((IntKind.wrap .i64 ((IntKind.wrap .i64 (a.1+(IntKind.wrap .i64 (Int.tdiv (IntKind.wrap .i64 (a.2-a.1)) 2))))+1)),a.2) f) (j (a.1,(IntKind.wrap .i64 (a.1+(IntKind.wrap .i64 (Int.tdiv (IntKind.wrap .i64 (a.2-a.1)) 2))))) f))) (K (.aD [pI a.1,pB false]) e)) (0,((List.length l:Nat):Int)) u0):aa prog 251 [pA d,pS i] u0 K:= VC [] [(2,⟨[(6,.one (.raw (.int .i64))),(7,.one (.raw (.int .i64)))],[]⟩)] [] [] [] [] [] func251 h
theorem om.c{a:Option Addr}(h: nP a λg m=> ∃f,aB u0 g (m+1) 1=some [pB f]/\ ab f (nP a λi n=> ∃x b,aB u0 i n 1=some [.list 1 x b]/\ nP a λj o=> ∃e d,aB u0 j o 1=some [.list 1 e d]/\ (0:Int)<=0/\0<=(IntKind.wrap .i64 (((List.length b:Nat):Int)+1))/\(IntKind.wrap .i64 (((List.length b:Nat):Int)+1))<(4611686018427387904:Int)/\Int.toNat (IntKind.wrap .i64 (((List.length b:Nat):Int)+1))*16<=140737488355328/\ ∀(Ef:Nat),u0 Ef=none-> lZ 1 16 214 (some ⟨Ef,0,none⟩) (Int.toNat 0) (Int.toNat (IntKind.wrap .i64 (((List.length b:Nat):Int)+1))) (.list 1 e d) (Mem.set u0 Ef (some (.cells 214 (List.flatten (List.replicate (Int.toNat (IntKind.wrap .i64 (((List.length b:Nat):Int)+1))) [pS ⟨#[]⟩]))))) λr t s u=> nP a λk p=> stM k p [pV r t s] u λv=> nP a λl q=> stM l (q+1) [pB false] v λw=> K (.aD []) w) (K (.aD []) u0)):aa prog 252 [pA a] u0 K:= VC [] [] [] [] [] [] [] func252 h
theorem mf.c{a:Option Addr}(h: ab (Option.isNone a) (bJ u0 309 [.list 1 .nil [],pB false] λi m=> K (pP i 0) m) (nP a λf k=> stM f (k+1) [pB true] u0 λb=> nP a λj l=> ∃e d,aB b j l 1=some [.list 1 e d]/\ bJ b 309 [.list 1 e d,pB true] λg n=> K (pP g 0) n)):aa prog 253 [pA a] u0 K:= VC [] [] [] [] [] [] [] func253 h
theorem yJ.c{a:Option Addr}{b:ByteArray}(h: nP a λk n=> ∃i,aB u0 k n 1=some [pA i]/\ aa prog 193 [pA i,pS b] u0 λv d=> ∃j,v=(pB j)/\ ab j (nP a λl o=> ∃e g f,aB d l (o+1) 1=some [pV e g f]/\ lZ 1 16 9 e g f (.list 1 .nr [[pS b]]) d λq s r t=> nP a λm p=> stM m (p+1) [pV q s r] t λu=> K (.aD []) u) (K (.aD []) d)):aa prog 254 [pA a,pS b] u0 K:= VC [] [] [] [] [] [] [14,17] func254 h
theorem uw.c{f:Option Addr}{m:Fl}{g:Lq}(h: ak (α:=Int) (λd a b=> ab (decide (a<((List.length g:Nat):Int))) (0<=a/\∃(j:List PV),(g)[Int.toNat a]?=some j/\ ∃i e q r s u t,ay j 0 6=some [pI i,pS e,pI q,pS r,pI s,.list 3 u t]/\ ab (i == 8) (d (IntKind.wrap .i64 (a+1)) b) (ab (aJ e ⟨#[]⟩) (d (IntKind.wrap .i64 (a+1)) b) (ab (i == 1) (aa prog 254 [pA f,pS e] b λo n=>
 o=(.aD [])/\ d (IntKind.wrap .i64 (a+1)) n) (aa prog 196 [pA f,pS e] b λp k=> ∃l,p=(pB l)/\ ab (!l) (K (pB false) k) (d (IntKind.wrap .i64 (a+1)) k))))) (K (pB true) b)) (0) u0):aa prog 255 [pA f,.list 6 m g] u0 K:= VC [6] [(2,⟨[(9,.one (.raw (.int .i64)))],[]⟩)] [] [] [] [] [] func255 h
theorem mc.c{a:Option Addr}{b:ByteArray}(h: ab (Option.isNone a) (K (.aD [pI 0,pB false]) u0) (aa prog 251 [pA a,pS b] u0 λg f=> ∃d e,g=(.aD [pI d,pB e])/\ K (.aD [pI d,pB e]) f)):aa prog 256 [pA a,pS b] u0 K:= VC [] [] [] [] [] [] [] func256 h
theorem uD.c{o:Fl}{b:Lq}(h: ak (α:=Int) (λp a e=> ab (decide (a<((List.length b:Nat):Int))) (0<=a/\∃(d:List PV),(b)[Int.toNat a]?=some d/\ ∃g i j k l r m,ay d 0 6=some [pI g,pS i,pI j,pS k,pI l,.list 3 r m]/\ aa prog 287 [.agg [pI g,pS i,pI j,pS k,pI l,.list 3 .sh m]] e λq f=> ∃n,q=(pB n)/\ ab (!n) (K (pB false) f) (p (IntKind.wrap .i64 (a+1)) f)) (K (pB true) e)) (0) u0):aa prog 259 [.list 6 o b] u0 K:= VC [] [(2,⟨[(3,.one (.raw (.int .i64)))],[]⟩)] [] [] [] [] [] func259 h
theorem kK.c{a:Int}(h: K (.agg [pI a,pI 0,pS ⟨#[]⟩,pI 0,pI 0,pS ⟨#[]⟩,pI 0,pI 0,pS ⟨#[]⟩,pI 0,pB false,pB false,pI 0]) u0):aa prog 264 [pI a] u0 K:= VC [2] [] [] [] [] [] [] func264 h
theorem fA.c{a:Option Addr}(h: K (.fn (.func 290) [] [.bn [pA a] 0]) u0):aa prog 268 [pA a] u0 K:= VC [] [] [] [] [1] [] [] func268 h
theorem Fx.c{n:Fl}{e:Lq}(h: ak (α:=(Fl×Lq)×Int) (λl a f=> ab (decide (a.2<((List.length e:Nat):Int))) (0<=a.2/\∃(m:List PV),(e)[Int.toNat a.2]?=some m/\ ∃g b i j k r d,ay m 0 6=some [pI g,pS b,pI i,pS j,pI k,.list 3 r d]/\ ab (aJ b ⟨#[]⟩) (aV false 3 32 .nil [] d f λs p=> aV false 6 80 a.1.1 a.1.2 [[pI g,pS b,pI i,pS j,pI k,.list 3 .sh ([]++d)]] p λo q=> l ((o,(a.1.2++[[pI g,pS b,pI i,pS j,pI k,.list 3 .sh ([]++d)]])),(IntKind.wrap .i64 (a.2+1))) q) (l ((a.1.1,a.1.2),(IntKind.wrap .i64 (a.2+1))) f)) (K (.list 6 a.1.1 a.1.2) f)) ((.nil,[]),0) u0):aa prog 271 [.list 6 n e] u0 K:= VC [5] [(3,⟨[(3,.one (.list 6)),(8,.one (.raw (.int .i64)))],[]⟩)] [] [] [] [] [] func271 h
theorem jg.c{a:Int}(h: K (.agg [pI a,pI 0,pB false,pS ⟨#[]⟩,.list 6 .nil [],.list 6 .nil [],pB false,.list 7 .nil [],pI 0,pA none]) u0):aa prog 273 [pI a] u0 K:= VC [2] [] [] [] [] [] [] func273 h
end Go.Proofs.YtbodiiomcfgokaaGreat
namespace Go.Proofs.YtbodiiomcfgokaaGreat
open Go.Proofs.Tryz Go.aK
variable {u0:Mem} {K:Kq}
set_option maxRecDepth 100000
theorem fU.c{a:Option Addr}(h: K (.fn (.func 294) [] [.bn [pA a] 0]) u0):aa prog 277 [pA a] u0 K:= VC [] [] [] [] [1] [] [] func277 h
theorem NJ.c{b n p d f:Int}{g o e:ByteArray}{A i:Fl}{k a:Lq}(h: ab (b == 8) (ak (α:=Int) (λC j l=> ab (decide (j<((List.length k:Nat):Int))) (0<=j/\∃(q:List PV),(k)[Int.toNat j]?=some q/\ ∃r s t,ay q 0 3=some [pI r,pS s,pI t]/\ ab ((r == d)&&(aJ s e&&((t == f)&&true))) (K (.aD [.list 4 i a,pB true]) l) (C (IntKind.wrap .i64 (j+1)) l)) (K (.aD [.list 4 .nil [],pB false]) l)) (0) u0) (ab (decide (b<1)) (K (.aD [.list 4 .nil [],pB false]) u0) (ab (decide (b>7)) (K (.aD [.list 4 .nil [],pB false]) u0) (ab (aJ g ⟨#[]⟩) (aa prog 296 [pI b,.agg [pI d,pS e,pI f],.agg [pI n,pS o,pI p]] u0 λG D=> ∃u,G=(pB u)/\ K (.aD [.list 4 i a,pB u]) D) (aa prog 233 [.list 4 i a,pS g] u0 λH m=> ∃v w x y,H=(.aD [.agg [pI v,pS w,pI x],pB y])/\ ab y (aa prog 296 [pI b,.agg [pI d,pS e,pI f],.agg [pI v,pS w,pI x]] m λI E=> ∃z,I=(pB z)/\ K (.aD [.list 4 i a,pB z]) E) (ab (b != 1) (K (.aD [.list 4 .nil [],pB false]) m) ((0:Int)<=(0:Int)/\0<=((List.length a:Nat):Int)/\((List.length a:Nat):Int)<=((List.length a:Nat):Int)/\((List.length a:Nat):Int)=((List.length a:Nat):Int)/\ aV false 4 48 .nr (List.drop (Int.toNat (0:Int)) (List.take (Int.toNat ((List.length a:Nat):Int)) a)) [[pS g,pI d,pS e,pI f]] m λB F=> K (.aD [.list 4 B ((List.drop (Int.toNat (0:Int)) (List.take (Int.toNat ((List.length a:Nat):Int)) a))++[[pS g,pI d,pS e,pI f]]),pB true]) F))))))):aa prog 278 [.agg [pI b,pS g,pI n,pS o,pI p,.list 3 A k],.agg [pI d,pS e,pI f],.list 4 i a] u0 K:= VC [3,4,9,10] [(3,⟨[(18,.one (.raw (.int .i64)))],[]⟩)] [] [] [] [] [] func278 h
theorem NK.c{v i:Fl}{b g:Lq}{d f:Int}{e:ByteArray}(h: ak (α:=(Fl×Lq)×Int) (λw a k=> ab (decide (a.2<((List.length b:Nat):Int))) (0<=a.2/\∃(j:List PV),(b)[Int.toNat a.2]?=some j/\ ∃m n o p q y r,ay j 0 6=some [pI m,pS n,pI o,pS p,pI q,.list 3 y r]/\ aa prog 278 [.agg [pI m,pS n,pI o,pS p,pI q,.list 3 .sh r],.agg [pI d,pS e,pI f],.list 4 a.1.1 a.1.2] k λx l=> ∃t s u,x=(.aD [.list 4 t s,pB u])/\ ab (!u) (K (.aD [.list 4 .nil [],pB false]) l) (w ((t,s),(IntKind.wrap .i64 (a.2+1))) l)) (K (.aD [.list 4 a.1.1 a.1.2,pB true]) k)) ((i,g),0) u0):aa prog 279 [.list 6 v b,.agg [pI d,pS e,pI f],.list 4 i g] u0 K:= VC [4,9] [(2,⟨[(2,.one (.list 4)),(14,.one (.raw (.int .i64)))],[]⟩)] [] [] [] [] [] func279 h
theorem Aw.c{i:Fn}{j k n o:List PV}(h: bJ u0 171 [.fn i j k] λb6 a=> bZ (α:=Option Addr×Bool) (λf=> ∃b4,ay n 0 1=some [pA b4]/\ nP b4 λb5 b8=> ∃d,aB a b5 (b8+1) 1=some [pA d]/\ ∃e,ay o 0 1=some [pI e]/\ (aa prog 238 [pA d,pI e] a λc8 c1=> ∃t v x C z G D H N J O Q S,c8=(.aD [.agg [pI t,pB v,pS x,.list 6 C z,.list 6 G D,pB H,.list 7 N J,pI O,pA Q],pB S])/\ bJ c1 292 [pI 0,pB false,pS ⟨#[]⟩,.list 6 .nil [],.list 6 .nil [],pB false,.list 7 .nil [],pI 0,pA none] λl c2=> stM l 0 [pI t,pB v,pS x,.list 6 C z,.list 6 G D,pB H,.list 7 N J,pI O,pA Q] c2 λc3=> f ((some ⟨l,0,none⟩),S) c3)/\ (bJ a 292 [pI 0,pB false,pS ⟨#[]⟩,.list 6 .nil [],.list 6 .nil [],pB false,.list 7 .nil [],pI 0,pA none] λm c4=> aa prog 238 [pA d,pI e] c4 λc9 c5=> ∃u w y B A F E I M L P R T,c9=(.aD [.agg [pI u,pB w,pS y,.list 6 B A,.list 6 F E,pB I,.list 7 M L,pI P,pA R],pB T])/\ stM m 0 [pI u,pB w,pS y,.list 6 B A,.list 6 F E,pB I,.list 7 M L,pI P,pA R] c5 λc6=> f ((some ⟨m,0,none⟩),T) c6)) (λp b=> ab (!p.2) (K (.aD []) b) (aF (pA p.1) λb7 b9=> ∃U,aB b b7 (b9+8) 1=some [pA U]/\ aa prog 281 [pA U] b λd0 c7=> ∃V W X,d0=(.fn V W X)/\ bk prog (.fn V W X) (λd2 g s=> ∃Y Z a0 a1 a2 a3 a4 a5 a6 a7 a8 a9,d2=[.agg [pI Y,pS Z,pI a0,pI a1,pS a2,pI a3,pI a4,pS a5,pI a6,pB a7,pB a8,pI a9]]/\ ∃b0 b1 b2,aB s b6 0 1=some [.fn b0 b1 b2]/\ bY prog (.fn b0 b1 b2) [.agg [pI Y,pS Z,pI a0,pI a1,pS a2,pI a3,pI a4,pS a5,pI a6,pB a7,pB a8,pI a9]] s λd1 r=> ∃b3,d1=(pB b3)/\ ab (!b3) (g (some .ret) r) (g none r)) (λc0 q=> PK c0 (K (.aD []) q) (K (.aD []) q) []) c7))):aa prog 280 [.fn i j k,.bn n 0,.bn o 0] u0 K:= VC [6] [] [(2,⟨[(4,.one (.raw .ptr)),(5,.one (.raw .bool))],[]⟩)] [(21,[334])] [] [] [] func280 h
theorem mg.c{a:Option Addr}(h: K (.fn (.func 297) [] [.bn [pA a] 0]) u0):aa prog 281 [pA a] u0 K:= VC [] [] [] [] [1] [] [] func281 h
theorem En.c{a b d:Int}{e l:Bool}{f:ByteArray}{i k n:Fl}{g j m:Lq}(h: K (pB true) u0):aa prog 282 [pI a,pI b,.agg [pI d,pB e,pS f,.list 6 i g,.list 6 k j,pB l,.list 7 n m]] u0 K:= VC [5] [] [] [] [] [] [] func282 h
theorem ID.c{b e g:Int}{d f:ByteArray}{w:Fl}{a:Lq}(h: ab (b == 8) (ab (!aJ d ⟨#[]⟩) (K (pB false) u0) (aa prog 284 [.agg [pI e,pS f,pI g]] u0 λA j=> ∃o,A=(pB o)/\ ab (!o) (K (pB false) j) (ab (decide (((List.length a:Nat):Int)<1)) (K (pB false) j) (ab (decide (((List.length a:Nat):Int)>8)) (K (pB false) j) (ak (α:=Int) (λx i l=> ab (decide (i<((List.length a:Nat):Int))) (0<=i/\∃(k:List PV),(a)[Int.toNat i]?=some k/\ ∃p q r,ay k 0 3=some [pI p,pS q,pI r]/\ aa prog 285 [.agg [pI p,pS q,pI r]] l λB m=> ∃s,B=(pB s)/\ ab (!s) (K (pB false) m) (x (IntKind.wrap .i64 (i+1)) m)) (K (pB true) l)) (0) j))))) (ab (decide (b<1)) (K (pB false) u0) (ab (decide (b>7)) (K (pB false) u0) (ab (decide (((List.length a:Nat):Int)>0)) (K (pB false) u0) (ab (!aJ d ⟨#[]⟩) (aa prog 187 [pS d] u0 λC n=> ∃t,C=(pB t)/\ ab t (aa prog 284 [.agg [pI e,pS f,pI g]] n λD y=> ∃u,D=(pB u)/\ K (pB u) y) (K (pB false) n)) (aa prog 285 [.agg [pI e,pS f,pI g]] u0 λE z=> ∃v,E=(pB v)/\ K (pB v) z)))))):aa prog 283 [.agg [pI b,pS d,pI e,pS f,pI g,.list 3 w a]] u0 K:= VC [1,4] [(5,⟨[(32,.one (.raw (.int .i64)))],[]⟩)] [] [] [] [] [] func283 h
theorem IF.c{a d:Int}{b:ByteArray}(h: K (pB ((a == 0)&&(aJ b ⟨#[]⟩&&((d == 0)&&true)))) u0):aa prog 284 [.agg [pI a,pS b,pI d]] u0 K:= VC [1] [] [] [] [] [] [] func284 h
theorem Aj.c{a d:Int}{b:ByteArray}(h: ab (a != 1) (aa prog 150 [.agg [pI a,pS b,pI d]] u0 λg f=> ∃e,g=(pB e)/\ K (pB e) f) (K (pB false) u0)):aa prog 285 [.agg [pI a,pS b,pI d]] u0 K:= VC [1] [] [] [] [] [] [] func285 h
theorem IC.c{a d:ByteArray}{b e:Int}(h: ab (aJ a ⟨#[]⟩) (K (pB (b == 3)) u0) (K (pB false) u0)):aa prog 286 [.agg [pS a,pI b,pS d,pI e]] u0 K:= VC [1] [] [] [] [] [] [] func286 h
theorem wQ.c{b f i:Int}{e g:ByteArray}{r:Fl}{a:Lq}(h: ab (b == 8) (ab (!aJ e ⟨#[]⟩) (K (pB false) u0) (ab (!((f == 0)&&(aJ g ⟨#[]⟩&&((i == 0)&&true)))) (K (pB false) u0) (ab (decide (((List.length a:Nat):Int)<1)) (K (pB false) u0) (ab (decide (((List.length a:Nat):Int)>8)) (K (pB false) u0) (ak (α:=Int) (λs d k=> ab (decide (d<((List.length a:Nat):Int))) (0<=d/\∃(j:List PV),(a)[Int.toNat d]?=some j/\ ∃m n o,ay j 0 3=some [pI m,pS n,pI o]/\ aa prog 162 [.agg [pI m,pS n,pI o]] k λu l=> ∃p,u=(pB p)/\ ab (!p) (K (pB false) l) (s (IntKind.wrap .i64 (d+1)) l)) (K (pB true) k)) (0) u0))))) (ab (decide (b>=1)) (ab (decide (b<=7)) (ab (((List.length a:Nat):Int) == 0) (aa prog 203 [.agg [pS e,pI f,pS g,pI i]] u0 λv t=> ∃q,v=(pB q)/\ K (pB q) t) (K (pB false) u0)) (K (pB false) u0)) (K (pB false) u0))):aa prog 287 [.agg [pI b,pS e,pI f,pS g,pI i,.list 3 r a]] u0 K:= VC [1] [(5,⟨[(3,.one (.raw (.int .i64)))],[]⟩)] [] [] [] [] [] func287 h
theorem IB.c{b f d g e:Int}{j k:ByteArray}(h: bZ (α:=Bool) (λl=> ab (f == 2) (l (g == 2) u0) (l false u0)) (λi a=> ab (b == 1) (K (pB ((f == g)&&(aJ j k&&((d == e)&&true)))) a) (ab (b == 2) (K (pB (!((f == g)&&(aJ j k&&((d == e)&&true))))) a) (ab (b == 3) (ab i (K (pB (decide (d<e))) a) (K (pB false) a)) (ab (b == 4) (ab i (K (pB (decide (d<=e))) a) (K (pB false) a)) (ab (b == 5) (ab i (K (pB (decide (d>e))) a) (K (pB false) a)) (ab (b == 6) (ab i (K (pB (decide (d>=e))) a) (K (pB false) a)) (ab (b == 7) (K (pB (f == g)) a) (K (pB false) a))))))))):aa prog 296 [pI b,.agg [pI f,pS j,pI d],.agg [pI g,pS k,pI e]] u0 K:= VC [4,5] [] [(2,⟨[(7,.one (.raw .bool))],[]⟩)] [] [] [] [] func296 h
theorem yX.c{d f g j:Int}{e i:ByteArray}(h: aa prog 315 [pI d,pI g] u0 λo k=> ∃a,o=(pI a)/\ ab (a != 0) (K (pI a) k) (aa prog 316 [pS e,pS i] k λp l=> ∃b,p=(pI b)/\ ab (b != 0) (K (pI b) l) (aa prog 315 [pI f,pI j] l λq n=> ∃m,q=(pI m)/\ K (pI m) n))):aa prog 314 [.agg [pI d,pS e,pI f],.agg [pI g,pS i,pI j]] u0 K:= VC [2,3] [] [] [] [] [] [] func314 h
theorem yW.c{b d:Int}(h: aa prog 317 [pI b] u0 λi g=> ∃f,i=(pB f)/\ aa prog 317 [pI d] g λj a=> ∃e,j=(pB e)/\ ab f (ab e (K (pI 0) a) (K (pI (-1)) a)) (ab e (K (pI 1) a) (ab (decide (b<d)) (K (pI (-1)) a) (ab (decide (b>d)) (K (pI 1) a) (K (pI 0) a))))):aa prog 315 [pI b,pI d] u0 K:= VC [] [] [] [] [] [] [] func315 h
theorem tz.c{b d:ByteArray}(h: aa prog 318 [pS b] u0 λi g=> ∃f,i=(pB f)/\ aa prog 318 [pS d] g λj a=> ∃e,j=(pB e)/\ ab f (ab e (K (pI 0) a) (K (pI (-1)) a)) (ab e (K (pI 1) a) (ab (Op.bytesLess (ByteArray.toList b) (ByteArray.toList d)) (K (pI (-1)) a) (ab (!(Op.bytesLess (ByteArray.toList b) (ByteArray.toList d)||aJ b d)) (K (pI 1) a) (K (pI 0) a))))):aa prog 316 [pS b,pS d] u0 K:= VC [] [] [] [] [] [] [] func316 h
theorem BK.c{a:Int}(h: K (pB (a != a)) u0):aa prog 317 [pI a] u0 K:= VC [] [] [] [] [] [] [] func317 h
theorem wZ.c{a:ByteArray}(h: K (pB (!aJ a a)) u0):aa prog 318 [pS a] u0 K:= VC [] [] [] [] [] [] [] func318 h
theorem uy.c{a b:ByteArray}(h: ab (Op.bytesLess (ByteArray.toList a) (ByteArray.toList b)) (K (pI (-1)) u0) (ab (!(Op.bytesLess (ByteArray.toList a) (ByteArray.toList b)||aJ a b)) (K (pI 1) u0) (K (pI 0) u0))):aa prog 324 [pS a,pS b] u0 K:= VC [] [] [] [] [] [] [] func324 h
theorem rZ.c{d f g j k m a p r s u v x b:Int}{e i l q t w:ByteArray}{n o y z:Bool}(h: ab (decide (a<b)) (K (pI (-1)) u0) (ab (decide (a>b)) (K (pI 1) u0) (K (pI 0) u0))):aa prog 325 [.agg [pI d,pS e,pI f,pI g,pS i,pI j,pI k,pS l,pI m,pB n,pB o,pI a],.agg [pI p,pS q,pI r,pI s,pS t,pI u,pI v,pS w,pI x,pB y,pB z,pI b]] u0 K:= VC [2,3] [] [] [] [] [] [] func325 h
theorem r_.c{a b:Int}(h: K (pI (IntKind.wrap .i64 (a-b))) u0):aa prog 332 [pI a,pI b] u0 K:= VC [] [] [] [] [] [] [] func332 h
theorem tt.c{b i e k:Fl}{a g d j:Lq}(h: aa prog 111 [.list 1 b a,.list 1 e d] u0 λm l=> ∃f,m=(pI f)/\ K (pI f) l):aa prog 333 [.agg [.list 1 b a,.list 4 i g],.agg [.list 1 e d,.list 4 k j]] u0 K:= VC [2,3] [] [] [] [] [] [] func333 h
theorem tr.c{a b:ByteArray}(h: ab (Op.bytesLess (ByteArray.toList a) (ByteArray.toList b)) (K (pI (-1)) u0) (ab (!(Op.bytesLess (ByteArray.toList a) (ByteArray.toList b)||aJ a b)) (K (pI 1) u0) (K (pI 0) u0))):aa prog 339 [pS a,pS b] u0 K:= VC [] [] [] [] [] [] [] func339 h
theorem gZ.c{b f d n:ByteArray}{i k m p r t:Fl}{g j l o q s:Lq}(h: (∀a,pv prog (method (prog.types.size+Made.depth) 139 a "Compare")=some (324,a))/\ aa prog 324 [pS b,pS d] u0 λa u=> ∃e,a=(pI e)/\ K (pI e) u):aa prog 340 [.agg [pS b,pS f,.list 7 i g,.list 19 k j,.list 1 m l],.agg [pS d,pS n,.list 7 p o,.list 19 r q,.list 1 t s]] u0 K:= VC [2,3] [] [] [] [] [] [] func340 h
theorem rB.c{a b:Int}(h: ab (decide (a<b)) (K (pI (-1)) u0) (ab (decide (a>b)) (K (pI 1) u0) (K (pI 0) u0))):aa prog 349 [pI a,pI b] u0 K:= VC [] [] [] [] [] [] [] func349 h
theorem fK.c{b e f i:Int}{d g:ByteArray}{k l:Option Addr}(h: (∀a,pv prog (method (prog.types.size+Made.depth) 60 a "Compare")=some (314,a))/\ aa prog 314 [.agg [pI b,pS d,pI e],.agg [pI f,pS g,pI i]] u0 λa m=> ∃j,a=(pI j)/\ K (pI j) m):aa prog 360 [.agg [pI b,pS d,pI e,pA k],.agg [pI f,pS g,pI i,pA l]] u0 K:= VC [2,3] [] [] [] [] [] [] func360 h
theorem rA.c{e g i k l n a q s t v w y b:Int}{f j m r u x:ByteArray}{o p z A:Bool}(h: aa prog 349 [pI a,pI b] u0 λC B=> ∃d,C=(pI d)/\ K (pI d) B):aa prog 361 [.agg [pI e,pS f,pI g,pI i,pS j,pI k,pI l,pS m,pI n,pB o,pB p,pI a],.agg [pI q,pS r,pI s,pI t,pS u,pI v,pI w,pS x,pI y,pB z,pB A,pI b]] u0 K:= VC [2,3] [] [] [] [] [] [] func361 h
theorem gP.c{b f i j l m o r d s u v x y A D:Int}{g k n t w z:ByteArray}{p q B C:Bool}(h: (∀a,pv prog (method (prog.types.size+Made.depth) 287 a "Compare")=some (349,a))/\ aa prog 349 [pI b,pI d] u0 λa E=> ∃e,a=(pI e)/\ K (pI e) E):aa prog 365 [.agg [pI b,pI f,pS g,pI i,pI j,pS k,pI l,pI m,pS n,pI o,pB p,pB q,pI r],.agg [pI d,pI s,pS t,pI u,pI v,pS w,pI x,pI y,pS z,pI A,pB B,pB C,pI D]] u0 K:= VC [2,3] [] [] [] [] [] [] func365 h
theorem gi.c{b f q d s C:Int}{g n t z:Bool}{i u:ByteArray}{k m p w y B:Fl}{j l o v x A:Lq}{r D:Option Addr}(h: (∀a,pv prog (method (prog.types.size+Made.depth) 287 a "Compare")=some (349,a))/\ aa prog 349 [pI b,pI d] u0 λa E=> ∃e,a=(pI e)/\ K (pI e) E):aa prog 369 [.agg [pI b,pI f,pB g,pS i,.list 6 k j,.list 6 m l,pB n,.list 7 p o,pI q,pA r],.agg [pI d,pI s,pB t,pS u,.list 6 w v,.list 6 y x,pB z,.list 7 B A,pI C,pA D]] u0 K:= VC [2,3] [] [] [] [] [] [] func369 h
end Go.Proofs.YtbodiiomcfgokaaGreat
namespace Go.aK
open Go.RowKit
theorem ab.t{c:Bool}{A B:Prop}(hc:c=true)(h:A):ab c A B:=by subst hc;exact h
theorem ab.f{c:Bool}{A B:Prop}(hc:c=false)(h:B):ab c A B:=by subst hc;exact h
theorem ab.mk{c:Bool}{A B:Prop}(h1:c=true->A)(h2:c=false->B):ab c A B:=YV.2 ⟨h1,h2⟩
theorem bZ.of{α β:Type}{A:(α->β->Prop)->Prop}{B:α->β->Prop}(h:∀J:α->β->Prop,(∀s u,B s u->J s u)->A J):bZ A B:=⟨B,h B λ_ _ h=>h,λ_ _ h=>h⟩
theorem ak.up{γ:Type}{body:(Int->γ->Prop)->Int->γ->Prop}{u:γ}(n:Nat)(hn:n<9223372036854775808)(I:Nat->γ->Prop)(h0:I 0 u)
  (h:∀(k:Nat) (u:γ) (next:Int->γ->Prop),k<=n->I k u->(k<n->∀u',I (k+1) u'->next (IntKind.wrap .i64 ((k:Int)+1)) u')->body next (k:Int) u):ak body 0 u:=by
 refine⟨λm s u=>∃k:Nat,s=(k:Int)/\k<=n/\I k u/\m=n-k,⟨n,0,rfl,Nat.zero_le _,h0,rfl⟩,?_⟩
 rintro _ _ u ⟨k,rfl,hk,hI,rfl⟩
 refine h k u _ hk hI λcz u' eU=>?_
 rw[az (by omega) (by omega)]
 exact⟨n-(k+1),by omega,k+1,by omega,by omega,eU,rfl⟩
theorem ak.up2{β γ:Type}{body:(β×Int->γ->Prop)->β×Int->γ->Prop}{x:β}{u:γ}(n:Nat)(hn:n<9223372036854775808)(I:Nat->β->γ->Prop)(h0:I 0 x u)
  (h:∀(k:Nat) (x:β) (u:γ) (next:β×Int->γ->Prop),k<=n->I k x u->(k<n->∀x' u',I (k+1) x' u'->next (x',IntKind.wrap .i64 ((k:Int)+1)) u')->body next (x,(k:Int)) u):ak body (x,0) u:=by
 refine⟨λm s u=>∃k:Nat,s.2=(k:Int)/\k<=n/\I k s.1 u/\m=n-k,⟨n,0,rfl,Nat.zero_le _,h0,rfl⟩,?_⟩
 rintro _ ⟨x,_⟩ u ⟨k,rfl,hk,hI,rfl⟩
 refine h k x u _ hk hI λcz x' u' eU=>?_
 rw[az (by omega) (by omega)]
 exact⟨n-(k+1),by omega,k+1,by simp,by omega,eU,rfl⟩
section
variable {P:Program} {g:FuncId} {args:List PV} {μ ν:Mem} {K K':Kq}
theorem aa.mono(h:aa P g args μ K)(hk:∀v μ',K v μ'->K' v μ'):aa P g args μ K':=λZ u vs hg hw ha=>by
 obtain⟨hc,h⟩:=h Z u vs hg hw ha
 refine⟨hc,h.Gf λv lo w' _ _ hp=>?_⟩
 obtain⟨Z',μ',p,e,g',hr,hK⟩:=hp
 exact⟨Z',μ',p,e,g',hr,hk p μ' hK⟩
theorem aa.EN(h:aa P g args μ K)(hk:∀v μ',K v μ'->∃v' pf,(∀Z r,cy Z v r->cy Z v' r)/\pf.sub μ'/\K' v' pf):aa P g args μ K':=λZ u vs hg hw ha=>by
 obtain⟨hc,h⟩:=h Z u vs hg hw ha
 refine⟨hc,h.Gf λv lo w' _ _ hp=>?_⟩
 obtain⟨Z',μ',p,e,g',hr,hK⟩:=hp
 obtain⟨v',pf,h1,h2,h3⟩:=hk p μ' hK
 exact⟨Z',pf,v',e.sub h2,g'.sub h2,h1 Z' _ hr,h3⟩
theorem aa.wk(h:aa P g args μ λp μ'=>K (aK.wk p) μ'):aa P g args μ K:=h.EN λv μ' hk=>⟨aK.wk v,μ',λZ r h=>h.wk,λ_ _ h=>h,hk⟩
theorem Mem.b_{μ ν:Mem}{b:Nat}{o:Ob}(h:μ b=some o):(μ.or ν) b=some o:=by simp[Mem.or,h]
theorem Mem.cj{μ ν:Mem}{b:Nat}(h:μ b=none):(μ.or ν) b=ν b:=by simp[Mem.or,h]
@[simp] theorem Mem.oM(μ:Mem):μ.or M0=μ:=by
 funext b;unfold Mem.or;cases μ b<;>rfl
@[simp] theorem Mem.GQ(μ:Mem):M0.or μ=μ:=by funext b;rfl
theorem Mem.Zi{μ ν:Mem}{b:Nat}(h:(μ.or ν) b≠Option.none):μ b≠Option.none\/ν b≠Option.none:=by
 cases hb:μ b with
 |some o=>exact .inl (by simp)
 |none=>rw[Mem.cj hb]at h;exact .inr h
@[simp] theorem al8(b:Nat):M0 b=Option.none:=rfl
theorem Mem.vq(μ:Mem):M0.sep μ:=λb=>.inl rfl
theorem aa.frame(h:aa P g args μ K)(hs:μ.sep ν):aa P g args (μ.or ν) λv μ'=>∃μ1,μ1.sep ν/\μ'=μ1.or ν/\K v μ1:=λZ u vs hg hw ha=>by
 have hμ:∀b o,μ b=some o->(o.rw=true->u.ij b)/\BA Z u b o:=λb o e=>hg.mem b o (Mem.b_ e)
 have hν:∀b o,ν b=some o->μ b=none/\(o.rw=true->u.ij b)/\BA Z u b o:=λb o e=>by
  have hn:μ b=none:=(hs b).resolve_right (by rw[e];simp)
  exact⟨hn,hg.mem b o (by rw[Mem.cj hn];exact e)⟩
 have HN:Good Z ⟨u.toWorld,λb=>∃o,μ b=some o/\o.rw=true⟩ μ:=⟨hg.IP,λb o e=>⟨λhr=>⟨o,e,hr⟩,(hμ b o e).2⟩⟩
 obtain⟨hc,F,hF,fu⟩:=h Z ⟨u.toWorld,λb=>∃o,μ b=some o/\o.rw=true⟩ vs HN (λb ⟨o,ho,_⟩=>HN.Tl (by rw[ho];simp)) ha
 refine⟨hc,F,λb hb=>?_,fu.mono λv lo w' hm Wk hp=>?_⟩
 ·obtain⟨o,ho,hr⟩:=hF b hb
  exact(hμ b o ho).1 hr
 ·obtain⟨Z',μ1,p,e,g',hr,hK⟩:=hp
  have hnb:∀b o,ν b=some o->w'.heap[b]?=u.heap[b]?/\Z' b=Z b/\μ1 b=none:=λb o hb=>by
   obtain⟨h1,_,h2⟩:=hν b o hb
   have cz:=h2.lt
   refine⟨hm.de b cz λhf=>(by obtain⟨o',TR,_⟩:=hF b hf;rw[h1]at TR;cases TR),?_,?_⟩
   ·cases hz:Z b with
    |some C=>exact e.zs b C hz h1
    |none=>
     cases Qv:Z' b with
     |none=>rfl
     |some C=>
      rcases e.zn b (by rw[Qv];simp)with h3|h3|h3
      ·exact absurd hz h3
      ·exact absurd h1 h3
      ·have:u.heap.size<=b:=h3;omega
   ·cases hx:μ1 b with
    |none=>rfl
    |some o'=>
     rcases e.mn b (by rw[hx];simp)with h3|h3
     ·exact absurd h1 h3
     ·have:u.heap.size<=b:=h3;omega
  refine⟨Z',μ1.or ν,p,⟨e.le,λb C hb hn=>?_,λb hb=>?_,λb hb=>?_,e.lt⟩,⟨g'.IP,λb o ho=>?_⟩,hr,μ1,λb=>?_,rfl,hK⟩
  ·refine e.zs b C hb ?_
   cases hx:μ b with
   |none=>rfl
   |some o=>rw[Mem.b_ hx]at hn;cases hn
  ·rcases e.zn b hb with h3|h3|h3
   ·exact .inl h3
   ·refine .inr (.inl ?_)
    cases hx:μ b with
    |none=>exact absurd hx h3
    |some o=>rw[Mem.b_ hx];simp
   ·exact .inr (.inr h3)
  ·rcases Mem.Zi hb with h3|h3
   ·rcases e.mn b h3 with h4|h4
    ·left
     cases hx:μ b with
     |none=>exact absurd hx h4
     |some o=>rw[Mem.b_ hx];simp
    ·exact .inr h4
   ·cases hx:ν b with
    |none=>exact absurd hx h3
    |some o=>exact .inl (by rw[Mem.cj (hν b o hx).1,hx];simp)
  ·cases hx:μ1 b with
   |some o'=>
    rw[Mem.b_ hx]at ho;cases ho
    obtain⟨p1,p2⟩:=g'.mem b _ hx
    refine⟨λLF=>?_,p2⟩
    rcases p1 LF with⟨o2,hy,BV⟩|p1
    ·exact .inl ((hμ b o2 hy).1 BV)
    ·exact .inr p1
   |none=>
    rw[Mem.cj hx]at ho
    obtain⟨h1,h2,h3⟩:=hν b o ho
    obtain⟨h4,h5,h6⟩:=hnb b o ho
    exact⟨λLF=>.inl (h2 LF),h3.go e.le h5 h4⟩
  ·cases hx:ν b with
   |none=>exact .inr rfl
   |some o=>exact .inl (hnb b o hx).2.2
def ao(P:Program)(g:FuncId)(args:List PV)(K:PV->Prop):Prop:=aa P g args M0 λp _=>K p
def Pure(P:Program)(g:FuncId)(args:List PV)(r:PV):Prop:=ao P g args λp=>p=r
theorem ao.call{Kp:PV->Prop}(h:ao P g args Kp)(hk:∀p,Kp p->K p μ):aa P g args μ K:=by
 have h1:=aa.frame (ν:=μ) h (Mem.vq μ)
 rw[Mem.GQ]at h1
 refine h1.EN λv μ' ⟨μ1,hs,e,hK⟩=>⟨v,μ,λ_ _ h=>h,λb o hb=>?_,hk v hK⟩
 rw[e,Mem.cj ((hs b).resolve_right (by rw[hb];simp))];exact hb
theorem Pure.call{r:PV}(h:Pure P g args r)(hk:K r μ):aa P g args μ K:=ao.call h λp e=>by subst e;exact hk
theorem ao.q{Kp:PV->Prop}(h:ao P g args Kp)(hk:∀p,Kp p->K p M0):dz P g args μ K:=λZ u vs hg hw ha=>by
 obtain⟨hc,fu⟩:=h Z ⟨u.toWorld,λ_=>False⟩ vs ⟨hg.IP,λb o e=>by cases e⟩ (λ_ h=>h.elim) ha
 refine⟨hc,fu.Gf λv lo w' _ _ hp=>?_⟩
 obtain⟨Z',μ',p,e,g',hr,hK⟩:=hp
 exact⟨Z',M0,p,e.sub (λb o h=>by cases h),g'.sub (λb o h=>by cases h),hr,hk p hK⟩
theorem Pure.q{r:PV}(h:Pure P g args r)(hk:K r M0):dz P g args μ K:=ao.q h λp e=>by subst e;exact hk
theorem ao.of{Kp:PV->Prop}(h:aa P g args M0 λp _=>Kp (aK.wk p)):ao P g args Kp:=aa.wk h
end
def oa(fl:Fl)(n size:Nat)(μ:Mem):Prop:=
 match fl with
 | .sh=>False
 | .nr=>True
 | .nil=>True
 | .pU b c=>μ b=some (.pU (n*size) (c*size))
def Fl.at(fl:Fl)(b:Nat):Prop:=match fl with| .pU b' _=>b=b'|_=>False
theorem aV.go{q:Bool}{size bytes:Nat}{fl:Fl}{rows new:Lq}{μ:Mem}{K:Fl->Mem->Prop}(h:oa fl rows.length size μ)(hb:(rows.length+new.length)*bytes<=140737488355328)(tN:rows.length+new.length<4611686018427387904)
  (hK:∀lT μ',oa lT (rows.length+new.length) size μ'->(∀b o,μ b=some o->¬fl.at b->μ' b=some o/\¬lT.at b)->K lT μ') (hq:q=true->∀b c,fl≠ .pU b c:=by first|(intro h;cases h;done)|(intro _ b c h;cases h)):aV q size bytes fl rows new μ K:=by
 refine⟨hb,tN,?_⟩
 cases new with
 |nil=>exact hK fl μ (by simpa using h) (λb o h1 h2=>⟨h1,h2⟩)
 |cons r rs=>
  show YM q size fl rows.length (r::rs).length μ K
  have nw:∀b c,μ b=none->K (.pU b c) (μ.set b (some (.pU ((rows.length+(r::rs).length)*size) (c*size)))):=λb c hm=>by
   refine hK _ _ (Mem.aq _ _ _) λb' o h1 h2=>?_
   have aT:b'≠b:=by rintro rfl;rw[hm]at h1;cases h1
   exact⟨by rw[Mem.aC _ _ aT];exact h1,aT⟩
  cases fl with
  |sh=>exact h
  |nr=>exact λb c hm _=>nw b c hm
  |nil=>exact λb c hm _=>nw b c hm
  |pU b c=>
   cases q with
   |true=>exact absurd rfl (hq rfl b c)
   |false=>
    refine⟨h,λb' c' hor _=>hK _ _ (Mem.aq _ _ _) λb2 o h1 h2=>?_⟩
    have h2:b2≠b:=h2
    have aT:b2≠b':=by
     rintro rfl
     rcases hor with e|e
     ·exact h2 e
     ·rw[e]at h1;cases h1
    exact⟨by rw[Mem.aC _ _ aT,Mem.aC _ _ h2];exact h1,aT⟩
theorem aV.RW{q:Bool}{size bytes:Nat}{fl:Fl}{rows new:Lq}{μ:Mem}{K:Fl->Mem->Prop}(h:oa fl rows.length size μ)(hb:(rows.length+new.length)*bytes<=140737488355328)(tN:rows.length+new.length<4611686018427387904)
  (hK:∀lT μ',oa lT (rows.length+new.length) size μ'->K lT μ') (hq:q=true->∀b c,fl≠ .pU b c:=by first|(intro h;cases h;done)|(intro _ b c h;cases h)):aV q size bytes fl rows new μ K:=aV.go h hb tN (λlT μ' h1 _=>hK lT μ' h1) hq
abbrev Item:=List PV->Mem->Mem->Prop
def YT(P:Program)(f:PV)(items:List Item)(St:Mem->Mem->Prop):Prop:=
 (∃g a b,f=.fn (.func g) a b)/\∀(fy:Fn) (ya yb:List PV) (I:Nat->Mem->Prop) (S:Mem->Prop) (μ:Mem),DI fy True->(∀μ',St μ μ'->I 0 μ')->
  (∀(k:Nat) (h:k<items.length) (vs:List PV) (μ μ1:Mem),I k μ->items[k] vs μ μ1->bY P (.fn fy ya yb) vs μ1 λv μ'=>(v=pB true/\I (k+1) μ')\/(v=pB false/\S μ'))->
  bY P f [.fn fy ya yb] μ λ_ μ'=>I items.length μ'\/S μ'
def yr(vs:List PV):Item:=λrC μ μ'=>rC=vs/\μ'=μ
abbrev VZ(P:Program)(f:PV)(items:Lq):Prop:=YT P f (items.map yr) Eq
theorem bY.mono{P:Program}{f:PV}{args:List PV}{μ:Mem}{K K':Kq}(h:bY P f args μ K)(hk:∀v μ',K v μ'->K' v μ'):bY P f args μ K':=by
 unfold bY at h |-
 split at h
 ·exact h.mono hk
 ·intro Z u fv vs hg hw hf ha
  refine rN.mono (h Z u fv vs hg hw hf ha) λv lo w' _ _ hp=>?_
  obtain⟨Z',μ',p,e,g',hr,hK⟩:=hp
  exact⟨Z',μ',p,e,g',hr,hk p μ' hK⟩
theorem Mem.set_set(μ:Mem)(b:Nat)(o o':Option Ob):(μ.set b o).set b o'=μ.set b o':=by
 funext c;by_cases h:c=b
 ·subst h;simp
 ·rw[Mem.aC _ _ h,Mem.aC _ _ h,Mem.aC _ _ h]
theorem YT.mk{P:Program}{g:FuncId}{a b:List PV}{items:List Item}{St:Mem->Mem->Prop}
  (h:∀(fy:Fn) (ya yb:List PV) (I:Nat->Mem->Prop) (S:Mem->Prop) (μ:Mem),DI fy True->(∀μ',St μ μ'->I 0 μ')->
   (∀(k:Nat) (h:k<items.length) (vs:List PV) (μ μ1:Mem),I k μ->items[k] vs μ μ1->bY P (.fn fy ya yb) vs μ1 λv μ'=>(v=pB true/\I (k+1) μ')\/(v=pB false/\S μ'))->
   aa P g (a++[.fn fy ya yb]++b) μ λ_ μ'=>I items.length μ'\/S μ'):YT P (.fn (.func g) a b) items St:=
 ⟨⟨g,a,b,rfl⟩,λfy ya yb I S μ hy h0 df=>h fy ya yb I S μ hy h0 df⟩
theorem VZ.mk{P:Program}{g:FuncId}{a b:List PV}{items:Lq}
  (h:∀(fy:Fn) (ya yb:List PV) (I:Nat->Mem->Prop) (S:Mem->Prop) (μ:Mem),DI fy True->I 0 μ->
   (∀(k:Nat) (h:k<items.length) (μ:Mem),I k μ->bY P (.fn fy ya yb) items[k] μ λv μ'=>(v=pB true/\I (k+1) μ')\/(v=pB false/\S μ'))->
   aa P g (a++[.fn fy ya yb]++b) μ λ_ μ'=>I items.length μ'\/S μ'):VZ P (.fn (.func g) a b) items:=
 YT.mk λfy ya yb I S μ hy h0 df=>by
  have:=h fy ya yb I S μ hy (h0 μ rfl) (λk hk μ hI=>df k (by simpa using hk) _ μ μ hI (by simp[yr]))
  simpa using this
def PV.rL:PV->Bool
 | .raw _=>true
 |_=>false
def PV.Gz:PV->Bool
 | .raw _=>true
 | .agg cs=>cs.all PV.rL
 |_=>false
def PV.flat:PV->Bool
 | .raw _=>true
 | .agg cs=>cs.all PV.rL
 | .aD vs=>vs.all PV.Gz
 |_=>false
theorem cy.rL{Z Z':Fz}{p:PV}{v:Value}(hf:p.rL=true)(h:cy Z p v):cy Z' p v:=by
 cases p<;>simp[PV.rL]at hf
 obtain⟨rfl,h1,h2⟩:=h.ofRaw
 exact .raw _ h1 h2
theorem cy.Gz{Z Z':Fz}{p:PV}{v:Value}(hf:p.Gz=true)(h:cy Z p v):cy Z' p v:=by
 cases p<;>simp only[PV.Gz]at hf<;>try (cases hf;done)
 ·exact h.rL (by rfl)
 ·obtain⟨vs,rfl,hc⟩:=h.sD
  exact bF.pT ⟨hc.1,λi p v a b=>⟨(hc.2 i p v a b).1,(hc.2 i p v a b).2.rL (List.all_eq_true.1 hf p (List.mem_of_getElem? a))⟩⟩
theorem cy.flat{Z Z':Fz}{p:PV}{v:Value}(hf:p.flat=true)(h:cy Z p v):cy Z' p v:=by
 cases p<;>simp only[PV.flat]at hf<;>try (cases hf;done)
 ·exact h.rL (by rfl)
 ·exact h.Gz hf
 ·obtain⟨vs,rfl,hc⟩:=h.CW
  exact bf.xC ⟨hc.1,λi p v a b=>⟨(hc.2 i p v a b).1,(hc.2 i p v a b).2.Gz (List.all_eq_true.1 hf p (List.mem_of_getElem? a))⟩⟩
structure SlM(μ:Mem)(a:Option Addr)(n c sz:Nat)(rows:Lq):Prop where
 len:rows.length=n
 cap:n<=c
 spot:c=0\/ju a
 each:∀r∈rows,r.length=sz
 cell:br rows.flatten=true
 read:n≠0->∃b o,a=some ⟨b,o,none⟩/\aB μ b o (n*sz)=some rows.flatten
def cellsOf:Option Ob->Option (List PV)
 |some (.cells _ cs)=>some cs
 |some (.ro _ cs)=>some cs
 |_=>none
def mU(Z:Fz)(u:UW)(μ:Mem):Fz:=λb=>match cellsOf (μ b)with|some _=>(match u.heap[b]? with|some (.cells A _ _)=>some A.toList|_=>none)|none=>Z b
theorem wu{Z:Fz}{u:UW}{μ:Mem}(hg:Good Z u μ){b:Nat}{cs:List PV}(hm:cellsOf (μ b)=some cs):Z b=none/\∃(A:Array Value) (T:TypeId),u.heap[b]?=some (.cells A T (0,0))/\dq Z cs A.toList:=by
 unfold cellsOf at hm
 split at hm
 ·rename_i T Wr e;cases hm
  obtain⟨_,hz,A,hA,hc⟩:=hg.mem b _ e
  exact⟨hz,A,T,hA,hc⟩
 ·rename_i T Wr e;cases hm
  obtain⟨_,hz,A,hA,hc⟩:=hg.mem b _ e
  exact⟨hz,A,T,hA,hc⟩
 ·cases hm
theorem jn{Z:Fz}{u:UW}{μ:Mem}(hg:Good Z u μ):Z.le (mU Z u μ):=λb C hC=>by
 refine⟨C,?_,List.prefix_refl _⟩
 unfold mU
 split
 ·rename_i cs hm
  have hz:=(wu hg hm).1
  rw[hz]at hC;cases hC
 ·exact hC
theorem Pq{Z:Fz}{u:UW}{μ:Mem}(hg:Good Z u μ){b:Nat}{cs:List PV}(hm:cellsOf (μ b)=some cs):∃A:Array Value,mU Z u μ b=some A.toList/\dq Z cs A.toList:=by
 obtain⟨hz,A,T,hA,hc⟩:=wu hg hm
 refine⟨A,?_,hc⟩
 unfold mU
 rw[hm]
 simp only[hA]
theorem aaM{μ:Mem}{b o n:Nat}{r:List PV}(h:aB μ b o n=some r):∃cs,cellsOf (μ b)=some cs/\o+n<=cs.length/\r=(cs.drop o).take n:=by
 unfold aB at h
 split at h
 ·rename_i e;split at h
  ·rename_i hl;cases h;exact⟨_,by rw[e];rfl,hl,rfl⟩
  ·cases h
 ·rename_i e;split at h
  ·rename_i hl;cases h;exact⟨_,by rw[e];rfl,hl,rfl⟩
  ·cases h
 ·cases h
inductive mi(μ:Mem):PV->PV->Prop where
 |same (c:PV):mi μ c c
 |wk (c:PV):mi μ c (cH c)
 |nil (sz:Nat) (rows:Lq):mi μ (.list sz .nil rows) (.raw (.slice none 0 0))
 |Xw (a:Option Addr) (k sz:Nat) (spot:k=0\/ju a):mi μ (.raw (.slice a 0 k)) (.list sz .sh [])
 |lst (b o k sz:Nat) (rows:Lq) (cs:List PV) (cap:rows.length<=k) (each:∀r∈rows,r.length=sz) (cell:br rows.flatten=true) (read:aB μ b o (rows.length*sz)=some cs) (h:∀(i:Nat) c d,cs[i]?=some c->rows.flatten[i]?=some d->mi μ c d):mi μ (.raw (.slice (some ⟨b,o,none⟩) rows.length k)) (.list sz .sh rows)
 |agg {cs ds:List PV} (hl:cs.length=ds.length) (cell:br ds=true) (h:∀(i:Nat) c d,cs[i]?=some c->ds[i]?=some d->mi μ c d):mi μ (.agg cs) (.agg ds)
 |aD {cs ds:List PV} (hl:cs.length=ds.length) (ok:∀d∈ds,d.ok=true) (h:∀(i:Nat) c d,cs[i]?=some c->ds[i]?=some d->mi μ c d):mi μ (.aD cs) (.aD ds)
theorem mi.rep{Z:Fz}{u:UW}{μ:Mem}(hg:Good Z u μ){c d:PV}(hb:mi μ c d):∀{v:Value},cy Z c v->cy (mU Z u μ) d v:=by
 induction hb with
 |same=>exact λhr=>hr.mono (jn hg)
 |wk=>exact λhr=>hr.cH.mono (jn hg)
 |nil sz rows=>
  intro v hr
  cases hr with
  |list _ _ _ _ _ _ b o C g hn hc hs hr ha hgg hk hp hf=>
   obtain⟨rfl,rfl,rfl⟩:=hf
   exact .raw _ rfl rfl
 |Xw a k sz spot=>
  intro v hr
  rw[hr.ofRaw.1]
  exact .list sz .sh [] a 0 k 0 0 [] (λ_ _=>undef) rfl (Nat.zero_le _) spot (by simp) (λh=>absurd rfl h) (λi j hi=>by omega) (by simp) (by simp) trivial
 |lst b o k sz rows cs cap each cell read h ih=>
  intro v hr
  rw[hr.ofRaw.1]
  obtain⟨cs0,hm,hl,rfl⟩:=aaM read
  obtain⟨A,hz,hrm⟩:=Pq hg hm
  have Ye:A.toList.length=cs0.length:=hrm.1
  have pq:rows.flatten.length=rows.length*sz:=gj each
  have hv:bF (mU Z u μ) rows.flatten ((A.toList.drop o).take (rows.length*sz)):=by
   refine⟨by rw[List.length_take,List.length_drop,pq];omega,λi d v hd hv=>?_⟩
   have hcd:d.cell=true:=by
    have:=List.all_eq_true.1 cell d (List.mem_of_getElem? hd);exact this
   have hi:i<rows.length*sz:=by rw[<- pq];exact(List.getElem?_eq_some_iff.1 hd).1
   have hc:((cs0.drop o).take (rows.length*sz))[i]?=some (cs0[o+i]'(by omega)):=by
    rw[List.getElem?_take,if_pos hi,List.getElem?_drop,List.getElem?_eq_getElem (by omega)]
   rw[List.getElem?_take,if_pos hi,List.getElem?_drop]at hv
   exact⟨hcd,ih i _ d hc hd (hrm.2 (o+i) _ v (List.getElem?_eq_getElem (by omega)) hv)⟩
  exact su (Z:=mU Z u μ) (sz:=sz) (fl:=.sh) (rows:=rows) (b:=b) (o:=o) (c:=k) (C:=A.toList) each hv hz (λj hj=>by
   rw[List.getElem?_take,if_pos (by simp at hj;omega),List.getElem?_drop]) cap trivial
 |agg hl cell h ih=>
  intro v hr
  obtain⟨vs,rfl,hc⟩:=hr.sD
  refine bF.pT ⟨hc.1.trans hl,λi d v hd hv=>?_⟩
  rename_i cs ds
  have cz:i<cs.length:=by rw[hl];exact(List.getElem?_eq_some_iff.1 hd).1
  have hi:cs[i]?=some cs[i]:=List.getElem?_eq_getElem cz
  exact⟨List.all_eq_true.1 cell d (List.mem_of_getElem? hd),ih i _ d hi hd (hc.2 i _ v hi hv).2⟩
 |aD hl ok h ih=>
  intro v hr
  obtain⟨vs,rfl,hc⟩:=hr.CW
  refine bf.xC ⟨hc.1.trans hl,λi d v hd hv=>?_⟩
  rename_i cs ds
  have cz:i<cs.length:=by rw[hl];exact(List.getElem?_eq_some_iff.1 hd).1
  have hi:cs[i]?=some cs[i]:=List.getElem?_eq_getElem cz
  exact⟨ok d (List.mem_of_getElem? hd),ih i _ d hi hd (hc.2 i _ v hi hv).2⟩
theorem mi.list{μ:Mem}{a:Option Addr}{n k sz:Nat}{rows:Lq}(h:SlM μ a n k sz rows):mi μ (.raw (.slice a n k)) (.list sz .sh rows):=by
 by_cases hn:n=0
 ·have:rows=[]:=List.eq_nil_of_length_eq_zero (by rw[h.len,hn])
  subst this hn
  exact .Xw a k sz h.spot
 ·obtain⟨b,o,rfl,hr⟩:=h.read hn
  obtain rfl:=h.len
  exact .lst b o k sz rows _ h.cap h.each h.cell hr λi c d hc hd=>by rw[hc]at hd;cases hd;exact .same _
def mY(μ:Mem)(cs ds:List PV):Prop:=cs.length=ds.length/\∀(i:Nat) c d,cs[i]?=some c->ds[i]?=some d->mi μ c d
theorem mY.refl(μ:Mem)(cs:List PV):mY μ cs cs:=⟨rfl,λi c d h1 h2=>by rw[h1]at h2;cases h2;exact .same _⟩
theorem mY.nil(μ:Mem):mY μ [] []:=mY.refl μ []
theorem mY.cons{μ:Mem}{c d:PV}{cs ds:List PV}(h:mi μ c d)(k:mY μ cs ds):mY μ (c::cs) (d::ds):=⟨by simp[k.1],λi x y h1 h2=>by
 cases i with
 |zero=>simp at h1 h2;subst h1 h2;exact h
 |succ i=>exact k.2 i x y h1 h2⟩
theorem mY.rep{Z:Fz}{u:UW}{μ:Mem}(hg:Good Z u μ){cs ds:List PV}{vs:List Value}(hb:mY μ cs ds)(hr:dq Z cs vs):dq (mU Z u μ) ds vs:=by
 refine⟨hr.1.trans hb.1,λi d v hd hv=>?_⟩
 have cz:i<cs.length:=by rw[hb.1];exact(List.getElem?_eq_some_iff.1 hd).1
 have hi:cs[i]?=some cs[i]:=List.getElem?_eq_getElem cz
 exact(hb.2 i _ d hi hd).rep hg (hr.2 i _ v hi hv)
theorem lz{Z:Fz}{u:UW}{μ:Mem}{b:Nat}(h:μ b=none):mU Z u μ b=Z b:=by
 unfold mU;rw[h];rfl
theorem Ei{Z:Fz}{u:UW}{μ μ1:Mem}(hg:Good Z u μ):∀b C,mU Z u μ1 b=some C->∃A T f,u.heap[b]?=some (.cells A T f)/\C <+: A.toList:=λb C hC=>by
 unfold mU at hC
 split at hC
 ·split at hC
  ·rename_i A T f hA;cases hC;exact⟨A,T,f,hA,List.prefix_refl _⟩
  ·cases hC
 ·exact hg.IP b C hC
theorem aa.query{P:Program}{g:FuncId}{args:List PV}{μ ν μ1:Mem}{K:Kq}{Kq:PV->Prop}(h:aa P g args ν λp _=>Kq p)(h1:∀b o,μ1 b=some o->μ b=some o)
  (hν:∀b o,ν b=some o->μ1 b=none/\∃T cs ds,o=.ro T ds/\μ b=some (.cells T cs)/\mY μ1 cs ds) (hf:∀p,Kq p->p.flat=true) (hk:∀p,Kq p->K p μ):aa P g args μ K:=λZ u vs hg hw ha=>by
 have HN:Good Z u μ1:=hg.sub h1
 have hle:=jn HN
 have hgb:Good (mU Z u μ1) ⟨u.toWorld,λ_=>False⟩ ν:=by
  refine⟨Ei hg,λb o ho=>?_⟩
  obtain⟨hn,T,cs,ds,rfl,hm,hb⟩:=hν b o ho
  obtain⟨_,hz,A,hA,hc⟩:=hg.mem b _ hm
  exact⟨λhr=>(by cases hr),(lz hn).trans hz,A,hA,hb.rep HN hc⟩
 obtain⟨hc,F,hF,fu⟩:=h (mU Z u μ1) ⟨u.toWorld,λ_=>False⟩ vs hgb (λ_ h=>h.elim) (bf.mono hle ha)
 refine⟨hc,F,λb hb=>(hF b hb).elim,fu.mono λv lo w' hm Wk hp=>?_⟩
 obtain⟨Z',μ',p,e,g',hr,hK⟩:=hp
 have de:∀b,b<u.heap.size->w'.heap[b]?=u.heap[b]?:=λb hb=>hm.de b hb λhf=>hF b hf
 refine⟨Z,μ,p,hg.ext,hg.go (Fz.le.refl Z) (λb C hC=>.inl ⟨hC,de b (hg.HD (by rw[hC];simp))⟩) (λb o ho=>.inl ⟨ho,de b (hg.Tl (by rw[ho];simp)),λhp=>.inl hp,rfl⟩),hr.flat (hf p hK),hk p hK⟩
def GU(μ μ':Mem):Prop:=∀(Z:Fz) (u:UW),Good Z u μ->∃Z',Ext Z μ u.heap.size Z' μ'/\Good Z' u μ'
theorem GU.refl(μ:Mem):GU μ μ:=λZ u hg=>⟨Z,hg.ext,hg⟩
theorem aa.pre{P:Program}{g:FuncId}{args:List PV}{μ μ':Mem}{K:Kq}(hG:GU μ μ')(h:aa P g args μ' K):aa P g args μ K:=λZ u vs hg hw ha=>by
 obtain⟨Z',e,g'⟩:=hG Z u hg
 obtain⟨hc,F,hF,h⟩:=h Z' u vs g' hw (bf.mono e.le ha)
 refine⟨hc,F,hF,h.mono λv lo w' _ hs hp=>?_⟩
 obtain⟨Z'',pf,p,e',g'',hr,hK⟩:=hp
 exact⟨Z'',pf,p,e.trans e' (Nat.le_refl _),g'',hr,hK⟩
theorem aa.post{P:Program}{g:FuncId}{args:List PV}{μ:Mem}{K:Kq}(h:aa P g args μ λv μ'=>∃pf,GU μ' pf/\K v pf):aa P g args μ K:=λZ u vs hg hw ha=>by
 obtain⟨hc,F,hF,h⟩:=h Z u vs hg hw ha
 refine⟨hc,F,hF,h.mono λv lo w' hm hs hp=>?_⟩
 obtain⟨Z',μ',p,e,g',hr,pf,hG,hK⟩:=hp
 obtain⟨Z'',e',g''⟩:=hG Z' _ g'
 exact⟨Z'',pf,p,e.trans e' hm.size,g'',hr.mono e'.le,hK⟩
theorem GU.bor{μ μ1 μ':Mem}(h1:∀b o,μ1 b=some o->μ b=some o)(h:∀b o,μ' b=some o->μ1 b=none/\(μ b=some o\/∃T cs ds,o=.cells T ds/\μ b=some (.cells T cs)/\mY μ1 cs ds)):GU μ μ':=λZ u hg=>by
 have HN:Good Z u μ1:=hg.sub h1
 have hle:=jn HN
 have hmu:∀b,μ b=none->μ1 b=none:=λb hb=>by
  cases hx:μ1 b with
  |none=>rfl
  |some o=>rw[h1 b o hx]at hb;cases hb
 refine⟨mU Z u μ1,⟨hle,λb C hC hn=>?_,λb hb=>?_,λb hb=>?_,λ_ h'=>hg.HD h'⟩,Ei hg,λb o ho=>?_⟩
 ·rw[lz (hmu b hn)];exact hC
 ·cases hx:μ1 b with
  |none=>rw[lz hx]at hb;exact .inl hb
  |some o=>exact .inr (.inl (by rw[h1 b o hx];simp))
 ·cases hx:μ' b with
  |none=>exact absurd hx hb
  |some o=>
   rcases(h b o hx).2 with e|⟨T,cs,ds,_,e,_⟩
   ·exact .inl (by rw[e];simp)
   ·exact .inl (by rw[e];simp)
 ·obtain⟨hn,e|⟨T,cs,ds,rfl,e,hb⟩⟩:=h b o ho
  ·obtain⟨g1,g2⟩:=hg.mem b o e
   exact⟨g1,g2.go hle (lz hn) rfl⟩
  ·obtain⟨g1,hz,A,hA,hc⟩:=hg.mem b _ e
   exact⟨λ_=>g1 rfl,(lz hn).trans hz,A,hA,hb.rep HN hc⟩
theorem aa.ad5{P:Program}{g:FuncId}{args:List PV}{μ:Mem}{K:PV->Prop}(h:aa P g args μ λv μ'=>∃v',mi μ' v v'/\K v'):aa P g args μ λv _=>K v:=λZ u vs hg hw ha=>by
 obtain⟨hc,F,hF,h⟩:=h Z u vs hg hw ha
 refine⟨hc,F,hF,h.mono λv lo w' hm hs hp=>?_⟩
 obtain⟨Z',μ',p,e,g',hr,v',hb,hK⟩:=hp
 have hG:GU μ' M0:=GU.bor (μ1:=μ') (λ_ _ h=>h) λb o h=>by cases h
 have hle:=jn g'
 refine⟨mU Z' (u.ret lo w') μ',M0,v',⟨e.le.trans hle,λb C hC hn=>?_,λb iK=>?_,λb iK=>absurd rfl iK,e.lt⟩,⟨Ei g',λb o h=>by cases h⟩,hb.rep g' hr,hK⟩
 ·have h1:=e.zs b C hC hn
  obtain⟨C',h2,_⟩:=hle b C h1
  have:μ' b=none:=by
   cases hx:μ' b with
   |none=>rfl
   |some o=>
    rcases e.mn b (by rw[hx];simp)with h3|h3
    ·exact absurd hn h3
    ·have:=e.lt b (by rw[hC];simp);omega
  rw[lz this];exact h1
 ·cases hx:μ' b with
  |none=>rw[lz hx]at iK;exact e.zn b iK
  |some o=>exact .inr (e.mn b (by rw[hx];simp))
theorem aa.freeze{P:Program}{g:FuncId}{args:List PV}{μ:Mem}{K K':Kq}(h:aa P g args μ K)(hk:∀v μ',K v μ'->∃(v':PV) (pf:Mem) (bs:List Nat),(∀Z u r,Good Z u μ'->cy Z v r->cy (mU Z u λb=>if b∈bs then μ' b else none) v' r)/\(∀b o,pf b=some o->μ' b=some o/\b∉bs)/\K' v' pf):aa P g args μ K':=λZ u vs hg hw ha=>by
 obtain⟨hc,h⟩:=h Z u vs hg hw ha
 refine⟨hc,h.Gf λv lo w' _ _ hp=>?_⟩
 obtain⟨Z',μ',p,e,g',hr,hK⟩:=hp
 obtain⟨v',pf,bs,h1,h2,h3⟩:=hk p μ' hK
 have gs:Good Z' (u.ret lo w') (λb=>if b∈bs then μ' b else none):=g'.sub λb o hb=>by
  by_cases hm:b∈bs
  ·rw[if_pos hm]at hb;exact hb
  ·rw[if_neg hm]at hb;cases hb
 have hzb:∀b,b∉bs->mU Z' (u.ret lo w') (λb=>if b∈bs then μ' b else none) b=Z' b:=λb hb=>by
  unfold mU;simp[hb,cellsOf]
 refine⟨mU Z' (u.ret lo w') (λb=>if b∈bs then μ' b else none),pf,v',⟨e.le.trans (jn gs),λb C hC hn=>?_,λb hb=>?_,λb hb=>?_,e.lt⟩,g'.go (jn gs) (λb C hC=>?_) (λb o ho=>?_),h1 Z' _ _ g' hr,h3⟩
 ·have h4:=e.zs b C hC hn
  obtain⟨C',h5,_⟩:=jn gs b C h4
  unfold mU at h5 |-
  split
  ·rename_i cs hm
   have hz:=(wu gs hm).1
   rw[h4]at hz;cases hz
  ·exact h4
 ·by_cases hm:b∈bs
  ·cases hx:μ' b with
   |none=>unfold mU at hb;simp[hm,hx,cellsOf]at hb;exact e.zn b hb
   |some o=>exact .inr (e.mn b (by rw[hx];simp))
  ·rw[hzb b hm]at hb;exact e.zn b hb
 ·cases hx:pf b with
  |none=>exact absurd hx hb
  |some o=>exact e.mn b (by rw[(h2 b o hx).1];simp)
 ·by_cases hm:b∈bs
  ·unfold mU at hC
   split at hC
   ·split at hC
    ·rename_i A T f hA;cases hC;exact .inr ⟨A,T,f,hA,List.prefix_refl _⟩
    ·cases hC
   ·exact .inl ⟨hC,rfl⟩
  ·rw[hzb b hm]at hC;exact .inl ⟨hC,rfl⟩
 ·obtain⟨h4,h5⟩:=h2 b o ho
  exact .inl ⟨h4,rfl,id,hzb b h5⟩
theorem aw{T:Type}{pv:T->List PV}{l:List T}{k:Nat}(hk:k<l.length):(l.map pv)[Int.toNat (k:Int)]?=some (pv l[k]):=by
 rw[Int.toNat_natCast,List.getElem?_map,List.getElem?_eq_getElem hk];rfl
def gA(w:World):Fz:=λb=>match w.heap[b]? with|some (.cells A _ _)=>some A.toList|_=>none
theorem YO{w:World}{b:Nat}{A:Array Value}{T:TypeId}{f:Nat×Nat}(h:w.heap[b]?=some (.cells A T f)):gA w b=some A.toList:=by simp[gA,h]
theorem Rs(w:World):Good (gA w) ⟨w,λ_=>False⟩ M0:=by
 refine⟨λb C hC=>?_,λb o h=>by cases h⟩
 unfold gA at hC
 split at hC
 ·rename_i A T f h
  cases hC
  exact⟨A,T,f,h,List.prefix_refl _⟩
 ·cases hC
theorem ao.calls{P:Program}{g:FuncId}{args:List PV}{K:PV->Prop}{w:World}{vs:List Value}(h:ao P g args K)(ha:bf (gA w) args vs):Calls P g vs.toArray w λe w'=>(∃v p Z,e=.returned v/\cy Z p v/\K p)/\Below w.heap.size w w':=by
 obtain⟨_,F,hF,fu⟩:=h (gA w) ⟨w,λ_=>False⟩ vs (Rs w) (λ_ h=>h.elim) ha
 refine(fu w (Ah.refl w)).mono λe w' ⟨v,w2,he,ho,Z',μ',p,_,_,hr,hK⟩=>⟨⟨v,p,Z',he,hr,hK⟩,?_⟩
 exact⟨ho.mod.os,ho.mod.tape,ho.mod.output,ho.mod.size,λb hb=>ho.mod.de b hb λhf=>hF b hf⟩
end Go.aK
