import Derived.Test.YthaeiehophlooaaGreatB06
open Bool (and_eq_true or_eq_false_iff)
open Go.IntKind (wrap)
open Int (tdiv toNat)
open List (all_eq_true cons_append drop getElem?_eq_getElem getElem_cons_succ getElem_mem length_cons mem_cons mem_map range take take_add_one take_append_drop take_succ_cons)
set_option linter.all false
namespace Go.Proofs.YthaeiehophlooaaGreat
open Go.Proofs.Tryz Go.aO
variable {u0:Mem} {K:Kq}
set_option maxRecDepth 100000
theorem zv.c{b:Option Addr}{o q r t u w z:Int}{p s v:ByteArray}{x y:Bool}(h: cg u0 88 [pI o,pS p,pI q,pI r,pS s,pI t,pI u,pS v,pI w,pB x,pB y,pI z] λa d=> bZ (α:=(Fl×Lq)×Int) (λm=> nP b λg1 g7=> ∃i,ay d g1 g7 1=some [pA i]/\ ∃j,ay d a 11 1=some [pI j]/\ (aa prog 192 [pA i,pI j] d λh9 h4=> ∃G I L N P R T V X Z a1 a3 a5,h9=(.aA [.agg [pI G,pS I,pI L,pI N,pS P,pI R,pI T,pS V,pI X,pB Z,pB a1,pI a3],pB a5])/\ cg h4 88 [pI 0,pS ⟨#[]⟩,pI 0,pI 0,pS ⟨#[]⟩,pI 0,pI 0,pS ⟨#[]⟩,pI 0,pB false,pB false,pI 0] λg2 h5=> stM g2 0 [pI G,pS I,pI L,pI N,pS P,pI R,pI T,pS V,pI X,pB Z,pB a1,pI a3] h5 λD=> ab a5 (K (.aA [.list 1 .nil [],pI 3]) D) (m ((.nil,[]),0) D))/\ (cg d 88 [pI 0,pS ⟨#[]⟩,pI 0,pI 0,pS ⟨#[]⟩,pI 0,pI 0,pS ⟨#[]⟩,pI 0,pB false,pB false,pI 0] λg3 h6=> aa prog 192 [pA i,pI j] h6 λi0 h7=> ∃H J M O Q S U W Y a0 a2 a4 a6,i0=(.aA [.agg [pI H,pS J,pI M,pI O,pS Q,pI S,pI U,pS W,pI Y,pB a0,pB a2,pI a4],pB a6])/\ stM g3 0 [pI H,pS J,pI M,pI O,pS Q,pI S,pI U,pS W,pI Y,pB a0,pB a2,pI a4] h7 λE=> ab a6 (K (.aA [.list 1 .nil [],pI 3]) E) (m ((.nil,[]),0) E))) (λj2 e=> nP b λg4 g8=> ∃a7,ay e g4 g8 1=some [pA a7]/\ ∃a8,ay e a 11 1=some [pI a8]/\ ∃a9 b0 b1 b2 b3 b4 b5 b6 b7 b8 b9 c0,ay e a 0 12=some [pI a9,pS b0,pI b1,pI b2,pS b3,pI b4,pI b5,pS b6,pI b7,pB b8,pB b9,pI c0]/\ aa prog 193 [pA a7,pI a8,.agg [pI a9,pS b0,pI b1,pI b2,pS b3,pI b4,pI b5,pS b6,pI b7,pB b8,pB b9,pI c0]] e λi1 h8=> ∃i6,i1=(pB i6)/\ cg h8 51 [.list 1 .nil []] λf F=> nP b λg5 g9=> ∃c1,ay F g5 (g9+1) 1=some [pA c1]/\ aa prog 167 [pA c1] F λi2 h1=> ∃c2 c3 c4,i2=(.fn c2 c3 c4)/\ bu prog (.fn c2 c3 c4) (λi5 n A=> ∃k c5 c6 c7 i7 c8 i8 c9 d0 i9 d1 j0 d2,i5=[pI k,.agg [pI c5,pB c6,pS c7,.list 6 i7 c8,.list 6 i8 c9,pB d0,.list 7 i9 d1,pI j0,pA d2]]/\ ∃d3 d4 d5 d6 d7 d8 d9 e0 e1 e2 e3 e4,ay A a 0 12=some [pI d3,pS d4,pI d5,pI d6,pS d7,pI d8,pI d9,pS e0,pI e1,pB e2,pB e3,pI e4]/\ aa prog 172 [.agg [pI c5,pB c6,pS c7,.list 6 .sh c8,.list 6 .sh c9,pB d0,.list 7 .sh d1],.agg [pI d3,pS d4,pI d5,pI d6,pS d7,pI d8,pI d9,pS e0,pI e1,pB e2,pB e3,pI e4]] A λi3 g=> ∃e5,i3=(pB e5)/\ ab e5 (∃e6 e7 e8 e9 f0 f1 f2 f3 f4 f5 f6 f7,ay g a 0 12=some [pI e6,pS e7,pI e8,pI e9,pS f0,pI f1,pI f2,pS f3,pI f4,pB f5,pB f6,pI f7]/\ aa prog 173 [pA d2,.agg [pI e6,pS e7,pI e8,pI e9,pS f0,pI f1,pI f2,pS f3,pI f4,pB f5,pB f6,pI f7]] g λi4 C=> ∃j1,i4=(pB j1)/\ ∃f8 l,ay C f 0 1=some [.list 1 f8 l]/\ aW false 1 8 f8 l [[pI k]] C λg6 h2=> stM f 0 [.list 1 g6 (l++[[pI k]])] h2 λh3=> n none h3) (n none g)) (λh0 B=> PK h0 (∃g0 f9,ay B f 0 1=some [.list 1 g0 f9]/\ K (.aA [.list 1 g0 f9,pI 0]) B) (False) []) h1)):aa prog 136 [pA b,.agg [pI o,pS p,pI q,pI r,pS s,pI t,pI u,pS v,pI w,pB x,pB y,pI z]] u0 K:= VC [10] [] [(4,⟨[(4,.one (.list 1)),(5,.one (.raw (.int .i64)))],[]⟩)] [(35,[191,196])] [] [] [] func136 h
theorem BU.c{d e:Option Addr}(h: nP d λl n=> ∃p b,ay u0 l (n+8) 1=some [.list 1 p b]/\ ao (α:=Int) (λm a g=> ab (decide (a<(b.length:Int))) (0<=a/\∃(f:List PV),(b)[toNat a]?=some f/\ ∃j,aE f 0 1=some [pI j]/\ aa prog 194 [pA e,pI j] g λo i=> ∃q k,o=(.aA [pI q,pB k])/\ ab k (K (pB true) i) (m (wrap .i64 (a+1)) i)) (K (pB false) g)) (0) u0):aa prog 137 [pA d,pA e] u0 K:= VC [] [(2,⟨[(14,.one (.raw (.int .i64)))],[]⟩)] [] [] [] [] [] func137 h
theorem uv.c{a:Int}(h: ab (decide (a>=97)) (ab (decide (a<=122)) (K (pB true) u0) (ab (decide (a>=48)) (ab (decide (a<=57)) (K (pB true) u0) (ab (a == 45) (K (pB true) u0) (K (pB (a == 95)) u0))) (ab (a == 45) (K (pB true) u0) (K (pB (a == 95)) u0)))) (ab (decide (a>=48)) (ab (decide (a<=57)) (K (pB true) u0) (ab (a == 45) (K (pB true) u0) (K (pB (a == 95)) u0))) (ab (a == 45) (K (pB true) u0) (K (pB (a == 95)) u0)))):aa prog 138 [.raw (.int .u8 a)] u0 K:= VC [] [] [] [] [] [] [] func138 h
theorem uo.c{d m:Int}{i l:Bool}{f:ByteArray}{j k s:Fl}{a e g:Lq}(h: ab (decide (d<1)) (K (pI 9) u0) (ab (decide (d>3)) (K (pI 9) u0) (ab (d == 3) (ab i (K (pI 9) u0) (ab (!aK f ⟨#[]⟩) (K (pI 9) u0) (ab (decide ((a.length:Int)>0)) (K (pI 9) u0) (ab (decide ((e.length:Int)>0)) (K (pI 9) u0) (ab l (K (pI 9) u0) (ab ((g.length:Int) == 0) (K (pI 9) u0) (ab (decide (m>=3)) (K (pI 8) u0) (K (pI 0) u0)))))))) (ab (decide ((g.length:Int)>0)) (K (pI 9) u0) (aa prog 84 [pS f] u0 λt b=> ∃p,t=(pB p)/\ ab (!p) (K (pI 9) b) (ab ((a.length:Int) == 0) (K (pI 9) b) (ab (decide ((a.length:Int)>4)) (K (pI 7) b) (ab (decide ((e.length:Int)>4)) (K (pI 7) b) (aa prog 195 [.list 6 j a] b λu n=> ∃q,u=(pB q)/\ ab (!q) (K (pI 9) n) (aa prog 195 [.list 6 k e] n λv o=> ∃r,v=(pB r)/\ ab (!r) (K (pI 9) o) (K (pI 0) o))))))))))):aa prog 139 [.agg [pI d,pB i,pS f,.list 6 j a,.list 6 k e,pB l,.list 7 s g],pI m] u0 K:= VC [2] [] [] [] [] [] [] func139 h
theorem uq.c{a d:ByteArray}{b e:Int}(h: ab (!aK a ⟨#[]⟩) (aa prog 84 [pS a] u0 λk f=> ∃i,k=(pB i)/\ ab i (K (pB ((b == 0)&&(aK d ⟨#[]⟩&&((e == 0)&&true)))) f) (K (pB false) f)) (aa prog 145 [.agg [pI b,pS d,pI e]] u0 λl j=> ∃g,l=(pB g)/\ K (pB g) j)):aa prog 140 [.agg [pS a,pI b,pS d,pI e]] u0 K:= VC [1] [] [] [] [] [] [] func140 h
theorem oW.c{p:Fl}{b:Lq}(h: ao (α:=(Fl×Lq)×Int) (λr a m=> ab (decide (a.2<(b.length:Int))) (0<=a.2/\∃(k:List PV),(b)[toNat a.2]?=some k/\ ∃d e f g i w v,aE k 0 6=some [pI d,pS e,pI f,pS g,pI i,.list 3 w v]/\ 0<=a.2/\∃(l:List PV),(b)[toNat a.2]?=some l/\ ∃o n,aE l 5 1=some [.list 3 o n]/\ aa prog 196 [.list 3 o n] m λu s=> ∃x j,u=(.list 3 x j)/\ aW false 6 80 a.1.1 a.1.2 [[pI d,pS e,pI f,pS g,pI i,.list 3 .sh j]] s λq t=> r ((q,(a.1.2++[[pI d,pS e,pI f,pS g,pI i,.list 3 .sh j]])),(wrap .i64 (a.2+1))) t) (K (.list 6 a.1.1 a.1.2) m)) ((.nil,[]),0) u0):aa prog 141 [.list 6 p b] u0 K:= VC [5] [(3,⟨[(3,.one (.list 6)),(4,.one (.raw (.int .i64)))],[]⟩)] [] [] [] [] [] func141 h
theorem nh.c{p:Fl}{b:Lq}(h: ao (α:=(Option Addr×Nat×Nat)×Int) (λq a f=> ab (decide (a.2<(b.length:Int))) (0<=a.2/\∃(d:List PV),(b)[toNat a.2]?=some d/\ ∃g i j k l y x,aE d 0 6=some [pI g,pS i,pI j,pS k,pI l,.list 3 y x]/\ 0<=a.2/\∃(e:List PV),(b)[toNat a.2]?=some e/\ ∃n m,aE e 5 1=some [.list 3 n m]/\ aa prog 196 [.list 3 n m] f λw u=> ∃z o,w=(.list 3 z o)/\ gP 6 80 102 a.1.1 a.1.2.1 a.1.2.2 (.list 6 .nr [[pI g,pS i,pI j,pS k,pI l,.list 3 .sh o]]) u λr t s v=> q ((r,t,s),(wrap .i64 (a.2+1))) v) (K (pV a.1.1 a.1.2.1 a.1.2.2) f)) ((none,0,0),0) u0):aa prog 141 [.list 6 p b] u0 K:= VC [5] [(3,⟨[(3,.one (.raw .slice)),(4,.one (.raw (.int .i64)))],[]⟩)] [] [] [] [] [2,3,23,26,27] func141 h
theorem rf.c{k:ByteArray}{b m e:Fl}{a l d:Lq}{f:Int}(h: cg u0 262 [pV none 0 0,pI f,pB false] λg n=> aa prog 197 [.list 7 b a,pI 0,.list 3 .nr [[.list 1 .sh [],.list 4 .sh [],pI 0]],.list 12 e d,pP g 0] n λp o=> ∃j i,p=(.list 3 j i)/\ K (.aA [.list 3 j i,pP g 0]) o):aa prog 142 [.agg [pS k,.list 7 b a,.list 19 m l],.list 12 e d,pI f] u0 K:= VC [3] [] [] [] [] [] [2011000] func142 h
theorem re.c{F:Fl}{f:Lq}(h: ao (α:=(Option Addr×Nat×Nat)×Int) (λL a o=> ab (decide (a.2<(f.length:Int))) (bZ (α:=Int) (λl=> ao (α:=Int) (λM d j=> ab (decide (d>0)) (0<=a.2/\∃(m:List PV),(f)[toNat a.2]?=some m/\ ∃r q,aE m 0 1=some [.list 1 r q]/\ bH a.1.1 λG O=> 0<=(wrap .i64 (d-1))/\(wrap .i64 (d-1))<((a.1.2.1:Nat):Int)/\ ∃t s,ay j G (O+toNat (wrap .i64 (d-1))*3) 1=some [.list 1 t s]/\ aa prog 198 [.list 1 r q,.list 1 t s] j λX p=> ∃u,X=(pB u)/\ ab u (M (wrap .i64 (d-1)) p) (l d p)) (l d j)) ((a.1.2.1:Nat):Int) o) (λi T=> gP 3 56 213 a.1.1 a.1.2.1 a.1.2.2 (.list 3 .nr [[.list 1 .sh [],.list 4 .sh [],pI 0]]) T λg e S U=> ao (α:=Int) (λN b k=> ab (decide (b>i)) (bH g λH P=> 0<=(wrap .i64 (b-1))/\(wrap .i64 (b-1))<((e:Nat):Int)/\ ∃w v y x z,ay k H (P+toNat (wrap .i64 (b-1))*3) 3=some [.list 1 w v,.list 4 y x,pI z]/\ bH g λI Q=> 0<=b/\b<((e:Nat):Int)/\ stM I (Q+toNat b*3) [.list 1 w v,.list 4 y x,pI z] k λV=> N (wrap .i64 (b-1)) V) (0<=a.2/\∃(n:List PV),(f)[toNat a.2]?=some n/\ ∃B A D C E,aE n 0 3=some [.list 1 B A,.list 4 D C,pI E]/\ bH g λJ R=> 0<=i/\i<((e:Nat):Int)/\ stM J (R+toNat i*3) [.list 1 B A,.list 4 D C,pI E] k λW=> L ((g,e,S),(wrap .i64 (a.2+1))) W)) (wrap .i64 (((e:Nat):Int)-1)) U)) (K (pV a.1.1 a.1.2.1 a.1.2.2) o)) ((none,0,0),0) u0):aa prog 143 [.list 3 F f] u0 K:= VC [] [(3,⟨[(3,.one (.raw .slice)),(4,.one (.raw (.int .i64)))],[]⟩),(6,⟨[(5,.one (.raw (.int .i64)))],[]⟩),(10,⟨[(6,.one (.raw (.int .i64)))],[]⟩)] [(8,⟨[(5,.one (.raw (.int .i64)))],[]⟩)] [] [] [] [2,3,13,23,33,36,37,45,47,53,60] func143 h
theorem sk.c{d b:Int}{a:ByteArray}(h: ab (d == 1) (ab ((((ByteArray.size a:Nat):Int):Int) == 1) ((0:Int)<=0/\∃Tw:UInt8,a[toNat 0]?=some Tw/\ ab (decide ((((UInt8.toNat Tw:Nat):Int):Int)>=65)) ((0:Int)<=0/\∃c20:UInt8,a[toNat 0]?=some c20/\ ab (decide ((((UInt8.toNat c20:Nat):Int):Int)<=90)) (ab (decide (b>=1)) (K (pB (decide (b<=1048576))) u0) (K (pB false) u0)) (K (pB false) u0)) (K (pB false) u0)) (K (pB false) u0)) (ab (d == 2) (ab (aK a ⟨#[]⟩) (ab (decide (b>=(-2147483647))) (K (pB (decide (b<=2147483647))) u0) (K (pB false) u0)) (K (pB false) u0)) (ab (d == 3) (ab (b == 0) (aa prog 84 [pS a] u0 λg f=> ∃e,g=(pB e)/\ K (pB e) f) (K (pB false) u0)) (K (pB false) u0)))):aa prog 144 [.agg [pI d,pS a,pI b]] u0 K:= VC [1] [] [] [] [] [] [] func144 h
theorem sm.c{a d:Int}{b:ByteArray}(h: aa prog 144 [.agg [pI a,pS b,pI d]] u0 λg e=> ∃f,g=(pB f)/\ ab f (K (pB (a != 1)) e) (K (pB false) e)):aa prog 145 [.agg [pI a,pS b,pI d]] u0 K:= VC [1] [] [] [] [] [] [] func145 h
theorem CV.c{m:ByteArray}{j S:Fl}{i b:Lq}(h: aa prog 186 [pS m] u0 λa0 o=> ∃q,a0=(pB q)/\ ab (!q) (K (.aA [pI (-1),pI 2]) o) (cg o 3 [pI 0] λd U=> stM d 0 [pI 0] U λV=> aa prog 164 [.list 7 j i,pI 0,pI 0,.fn (.func 206) [] [pP d 0]] V λa1 a=> ∃a4 a5,a1=(.aA [pI a4,pB a5])/\ ∃r,ay a d 0 1=some [pI r]/\ ab (decide (r<1)) (K (.aA [pI (-1),pI 7]) a) (∃s,ay a d 0 1=some [pI s]/\ ab (decide (s>16)) (K (.aA [pI (-1),pI 7]) a) (ab (decide ((b.length:Int)<1)) (K (.aA [pI (-1),pI 7]) a) (ab (decide ((b.length:Int)>16)) (K (.aA [pI (-1),pI 7]) a) (cg a 3 [pI 0] λk W=> cg W 30 [pI 0] λg X=> stM k 0 [pI (-1)] X λY=> stM g 0 [pI 0] Y λZ=> aa prog 164 [.list 7 j i,pI 0,pI 0,.fn (.func 207) [] [pP g 0,pP k 0]] Z λa2 f=> ∃a6 a7,a2=(.aA [pI a6,pB a7])/\ ∃t,ay f g 0 1=some [pI t]/\ ab (t != 0) (∃u,ay f k 0 1=some [pI u]/\ ∃v,ay f g 0 1=some [pI v]/\ K (.aA [pI u,pI v]) f) (ao (α:=Int) (λT e p=> ab (decide (e<(b.length:Int))) (0<=e/\∃(n:List PV),(b)[toNat e]?=some n/\ ∃w x y z A B C D E F G H I J L M N O P,aE n 0 19=some [pS w,pS x,pI y,pS z,pI A,pI B,pS C,pI D,pS E,pI F,pS G,pI H,pS I,pI J,pI L,pS M,pI N,pS O,pI P]/\ aa prog 209 [.agg [pS w,pS x,pI y,pS z,pI A,pI B,pS C,pI D,pS E,pI F,pS G,pI H,pS I,pI J,pI L,pS M,pI N,pS O,pI P]] p λa3 l=> ∃Q,a3=(pB Q)/\ ab (!Q) (∃R,ay l d 0 1=some [pI R]/\ K (.aA [pI (wrap .i64 (R+e)),pI 9]) l) (T (wrap .i64 (e+1)) l)) (K (.aA [pI (-1),pI 0]) p)) (0) f))))))):aa prog 157 [.agg [pS m,.list 7 j i,.list 19 S b]] u0 K:= VC [1,8] [(12,⟨[(46,.one (.raw (.int .i64)))],[]⟩)] [] [] [] [] [] func157 h
theorem oX.c{i:Fl}{b:Lq}(h: cg u0 343 [.list 1 .nil [],pB false] λd k=> ao (α:=Int) (λj a f=> ab (decide (a<(b.length:Int))) (0<=a/\∃(e:List PV),(b)[toNat a]?=some e/\ ∃g,aE e 0 1=some [pS g]/\ aa prog 210 [pP d 0,pS g] f λm l=> ∃n,m=(pB n)/\ j (wrap .i64 (a+1)) l) (K (pP d 0) f)) (0) k):aa prog 158 [.list 1 i b] u0 K:= VC [] [(3,⟨[(10,.one (.raw (.int .i64)))],[]⟩)] [] [] [] [] [] func158 h
theorem kN.c{d:Option Addr}{A:Fl}{e:Lq}{k:Int}(h: ao (α:=Int×Int) (λl a f=> ab (decide (a.2<(e.length:Int))) (0<=a.2/\∃(m:List PV),(e)[toNat a.2]?=some m/\ ∃b r s F t G u v w g,aE m 0 7=some [pI b,pB r,pS s,.list 6 F t,.list 6 G u,pB v,.list 7 w g]/\ bZ (α:=Option Addr) (λj=> ab (b != 1) (aa prog 211 [pA d] f λC B=> ∃x,C=(pA x)/\ j x B) (j d f)) (λn o=> ab (b == 3) (aa prog 159 [pA n,.list 7 w g,pI (wrap .i64 (a.1+1))] o λD p=> ∃i y,D=(.aA [pI i,pB y])/\ ab (!y) (K (.aA [pI i,pB false]) p) (l (i,(wrap .i64 (a.2+1))) p)) (aa prog 212 [pA n,.agg [pI b,pB r,pS s,.list 6 .sh t,.list 6 .sh u,pB v,.list 7 .sh g]] o λE q=> ∃z,E=(pB z)/\ ab (!z) (K (.aA [pI a.1,pB false]) q) (l ((wrap .i64 (a.1+1)),(wrap .i64 (a.2+1))) q)))) (K (.aA [pI a.1,pB true]) f)) (k,0) u0):aa prog 159 [pA d,.list 7 A e,pI k] u0 K:= VC [9] [(2,⟨[(2,.one (.raw (.int .i64))),(15,.one (.raw (.int .i64)))],[]⟩)] [(7,⟨[(10,.one (.raw .ptr))],[]⟩)] [] [] [] [] func159 h
theorem rY.c{b:Option Addr}{a f:ByteArray}{e g:Int}(h: ab (!aK a ⟨#[]⟩) (aa prog 213 [pA b,pS a] u0 λj i=> ∃d,j=(pB d)/\ K (pB (!d)) i) (K (pB false) u0)):aa prog 160 [pA b,.agg [pS a,pI e,pS f,pI g]] u0 K:= VC [3] [] [] [] [] [] [] func160 h
theorem Gt.c{E F:Fl}{e g:Lq}(h: ab ((e.length:Int) != (g.length:Int)) (K (pB false) u0) (ao (α:=Int) (λG a d=> ab (decide (a<(e.length:Int))) (0<=a/\∃(k:List PV),(e)[toNat a]?=some k/\ ∃o p q r s I f,aE k 0 6=some [pI o,pS p,pI q,pS r,pI s,.list 3 I f]/\ 0<=a/\∃(l:List PV),(g)[toNat a]?=some l/\ ∃t u v w x J j,aE l 0 6=some [pI t,pS u,pI v,pS w,pI x,.list 3 J j]/\ ab (o != t) (K (pB false) d) (ab (!aK p u) (K (pB false) d) (ab (!((q == v)&&(aK r w&&((s == x)&&true)))) (K (pB false) d) (ab ((f.length:Int) != (j.length:Int)) (K (pB false) d) (ao (α:=Int) (λH b i=> ab (decide (b<(f.length:Int))) (0<=b/\∃(m:List PV),(f)[toNat b]?=some m/\ ∃y z A,aE m 0 3=some [pI y,pS z,pI A]/\ 0<=b/\∃(n:List PV),(j)[toNat b]?=some n/\ ∃B C D,aE n 0 3=some [pI B,pS C,pI D]/\ ab (!((y == B)&&(aK z C&&((A == D)&&true)))) (K (pB false) i) (H (wrap .i64 (b+1)) i)) (G (wrap .i64 (a+1)) i)) (0) d))))) (K (pB true) d)) (0) u0)):aa prog 161 [.list 6 E e,.list 6 F g] u0 K:= VC [6,7,9] [(4,⟨[(17,.one (.raw (.int .i64)))],[]⟩),(10,⟨[(57,.one (.raw (.int .i64)))],[]⟩)] [] [] [] [] [] func161 h
theorem Gs.c{m:Fl}{d:Lq}(h: ao (α:=(Fl×Lq)×Int) (λo a l=> ab (decide (a.2<(d.length:Int))) (0<=a.2/\∃(k:List PV),(d)[toNat a.2]?=some k/\ ∃e f g i j r b,aE k 0 6=some [pI e,pS f,pI g,pS i,pI j,.list 3 r b]/\ aW false 3 32 .nil [] b l λs p=> aW false 6 80 a.1.1 a.1.2 [[pI e,pS f,pI g,pS i,pI j,.list 3 .sh ([]++b)]] p λn q=> o ((n,(a.1.2++[[pI e,pS f,pI g,pS i,pI j,.list 3 .sh ([]++b)]])),(wrap .i64 (a.2+1))) q) (K (.list 6 a.1.1 a.1.2) l)) ((.nil,[]),0) u0):aa prog 162 [.list 6 m d] u0 K:= VC [5] [(3,⟨[(3,.one (.list 6)),(8,.one (.raw (.int .i64)))],[]⟩)] [] [] [] [] [] func162 h
theorem BS.c{a:Fn}{b d e:List PV}(h: ∃g f,aE e 0 1=some [.list 7 g f]/\ aa prog 164 [.list 7 g f,pI 0,pI 0,.fn (.func 165) [] [.bk [.fn a b d] 0]] u0 λj i=> ∃k l,j=(.aA [pI k,pB l])/\ K (.aA []) i):aa prog 163 [.fn a b d,.bk e 0] u0 K:= VC [] [] [] [] [2] [] [] func163 h
theorem vW.c{y:Fl}{b:Lq}{k d:Int}{e:Fn}{f g:List PV}(h: ao (α:=Int×Int) (λz a m=> ab (decide (a.2<(b.length:Int))) (0<=a.2/\∃(l:List PV),(b)[toNat a.2]?=some l/\ ∃p q r C s D t u v i,aE l 0 7=some [pI p,pB q,pS r,.list 6 C s,.list 6 D t,pB u,.list 7 v i]/\ bJ prog (.fn e f g) [pI a.1,pI d,.agg [pI p,pB q,pS r,.list 6 .sh s,.list 6 .sh t,pB u,.list 7 .sh i]] m λA n=> ∃w,A=(pB w)/\ ab (!w) (K (.aA [pI a.1,pB false]) n) (aa prog 164 [.list 7 v i,pI (wrap .i64 (a.1+1)),pI (wrap .i64 (d+1)),.fn e f g] n λB o=> ∃j x,B=(.aA [pI j,pB x])/\ ab (!x) (K (.aA [pI j,pB false]) o) (z (j,(wrap .i64 (a.2+1))) o))) (K (.aA [pI a.1,pB true]) m)) (k,0) u0):aa prog 164 [.list 7 y b,pI k,pI d,.fn e f g] u0 K:= VC [11] [(2,⟨[(1,.one (.raw (.int .i64))),(15,.one (.raw (.int .i64)))],[]⟩)] [] [] [] [] [] func164 h
theorem xV.c{a p b:Int}{d i:Bool}{e:ByteArray}{q r s:Fl}{f g j:Lq}{k:List PV}(h: ∃m n o,aE k 0 1=some [.fn m n o]/\ bJ prog (.fn m n o) [pI a,.agg [pI b,pB d,pS e,.list 6 .sh f,.list 6 .sh g,pB i,.list 7 .sh j]] u0 λu t=> ∃l,u=(pB l)/\ K (pB l) t):aa prog 165 [pI a,pI p,.agg [pI b,pB d,pS e,.list 6 q f,.list 6 r g,pB i,.list 7 s j],.bk k 0] u0 K:= VC [6] [] [] [] [] [] [] func165 h
theorem Gv.c{n:Int}{a g:Bool}{o:ByteArray}{d f q:Fl}{b e p:Lq}(h: cV prog 214 [.list 6 d b] u0 λs i=> ∃m l,s=(.list 6 m l)/\ cV prog 214 [.list 6 f e] (Mem.or u0 i) λt r=> ∃k j,t=(.list 6 k j)/\ K (.agg [pI 1,pB a,pS ⟨#[]⟩,.list 6 m l,.list 6 k j,pB g,.list 7 .nil []]) (Mem.or (Mem.or u0 i) r)):aa prog 166 [.agg [pI n,pB a,pS o,.list 6 d b,.list 6 f e,pB g,.list 7 q p]] u0 K:= VC [1,2] [] [] [] [] [] [] func166 h
theorem fX.c{a:Option Addr}(h: K (.fn (.func 215) [] [.bk [pA a] 0]) u0):aa prog 167 [pA a] u0 K:= VC [] [] [] [] [1] [] [] func167 h
theorem Gu.c{E F:Fl}{e g:Lq}(h: ab ((e.length:Int) != (g.length:Int)) (K (pB false) u0) (ao (α:=Int) (λG a d=> ab (decide (a<(e.length:Int))) (0<=a/\∃(k:List PV),(e)[toNat a]?=some k/\ ∃o p q r s I f,aE k 0 6=some [pI o,pS p,pI q,pS r,pI s,.list 3 I f]/\ 0<=a/\∃(l:List PV),(g)[toNat a]?=some l/\ ∃t u v w x J j,aE l 0 6=some [pI t,pS u,pI v,pS w,pI x,.list 3 J j]/\ ab (o != t) (K (pB false) d) (ab (!aK p u) (K (pB false) d) (ab (!((q == v)&&(aK r w&&((s == x)&&true)))) (K (pB false) d) (ab ((f.length:Int) != (j.length:Int)) (K (pB false) d) (ao (α:=Int) (λH b i=> ab (decide (b<(f.length:Int))) (0<=b/\∃(m:List PV),(f)[toNat b]?=some m/\ ∃y z A,aE m 0 3=some [pI y,pS z,pI A]/\ 0<=b/\∃(n:List PV),(j)[toNat b]?=some n/\ ∃B C D,aE n 0 3=some [pI B,pS C,pI D]/\ ab (!((y == B)&&(aK z C&&((A == D)&&true)))) (K (pB false) i) (H (wrap .i64 (b+1)) i)) (G (wrap .i64 (a+1)) i)) (0) d))))) (K (pB true) d)) (0) u0)):aa prog 168 [.list 6 E e,.list 6 F g] u0 K:= VC [6,7,9] [(4,⟨[(17,.one (.raw (.int .i64)))],[]⟩),(10,⟨[(57,.one (.raw (.int .i64)))],[]⟩)] [] [] [] [] [] func168 h
theorem gR.c{a:Option Addr}(h: K (.fn (.func 220) [] [.bk [pA a] 0]) u0):aa prog 171 [pA a] u0 K:= VC [] [] [] [] [1] [] [] func171 h
theorem C_.c{a i k l n o q t:Int}{b f r s:Bool}{v j m p:ByteArray}{w x y:Fl}{d e g:Lq}(h: aa prog 176 [.agg [pI a,pB b,pS ⟨#[120]⟩,.list 6 .sh d,.list 6 .sh e,pB f,.list 7 .sh g],.agg [pI i,pS j,pI k,pI l,pS m,pI n,pI o,pS p,pI q,pB r,pB s,pI t],.list 4 .nil []] u0 λA z=> ∃C B u,A=(.aA [.list 4 C B,pB u])/\ K (pB u) z):aa prog 172 [.agg [pI a,pB b,pS v,.list 6 w d,.list 6 x e,pB f,.list 7 y g],.agg [pI i,pS j,pI k,pI l,pS m,pI n,pI o,pS p,pI q,pB r,pB s,pI t]] u0 K:= VC [2,3] [] [] [] [] [] [] func172 h
theorem Lm.c{b:Fl}{a:Lq}(h: aW false 4 48 .nil [] a u0 λd e=> K (.list 4 d ([]++a)) e):aa prog 174 [.list 4 b a] u0 K:= VC [] [] [] [] [] [] [] func174 h
theorem CR.c{r:Fn}{s t b u v:List PV}(h: cg u0 312 [.fn r s t] λS U=> ∃a2 a3 a4,aE b 0 1=some [.fn a2 a3 a4]/\ ∃y z A,aE b 0 1=some [.fn y z A]/\ bu prog (.fn y z A) (λY a V=> ∃e f g i j k l m n o p q,Y=[.agg [pI e,pS f,pI g,pI i,pS j,pI k,pI l,pS m,pI n,pB o,pB p,pI q]]/\ ∃B C D Z E a0 F G a1 H,aE u 0 7=some [pI B,pB C,pS D,.list 6 Z E,.list 6 a0 F,pB G,.list 7 a1 H]/\ ∃J I,aE v 0 1=some [.list 4 J I]/\ aa prog 176 [.agg [pI B,pB C,pS D,.list 6 .sh E,.list 6 .sh F,pB G,.list 7 .sh H],.agg [pI e,pS f,pI g,pI i,pS j,pI k,pI l,pS m,pI n,pB o,pB p,pI q],.list 4 J I] V λW d=> ∃M L N,W=(.aA [.list 4 M L,pB N])/\ ab N (∃O P Q,ay d S 0 1=some [.fn O P Q]/\ bJ prog (.fn O P Q) [.agg [pI e,pS f,pI g,pI i,pS j,pI k,pI l,pS m,pI n,pB o,pB p,pI q],.list 4 M L] d λX x=> ∃R,X=(pB R)/\ ab (!R) (a (some .ret) x) (a none x)) (a none d)) (λT w=> PK T (K (.aA []) w) (K (.aA []) w) []) U):aa prog 175 [.fn r s t,.bk b 0,.bk u 0,.bk v 0] u0 K:= VC [5] [] [] [(11,[88])] [] [] [] func175 h
theorem IW.c{e n p q s t v P:Int}{f a b g:Bool}{i o r u:ByteArray}{k m O x:Fl}{j l N w:Lq}(h: bZ (α:=Unit) (λd=> ab (e != 1) (ab (e != 2) (K (.aA [.list 4 .nil [],pB false]) u0) (ab f (ab (!g) (K (.aA [.list 4 .nil [],pB false]) u0) (ab (!(a == b)) (K (.aA [.list 4 .nil [],pB false]) u0) (d () u0))) (ab (!(a == b)) (K (.aA [.list 4 .nil [],pB false]) u0) (d () u0)))) (ab f (ab (!g) (K (.aA [.list 4 .nil [],pB false]) u0) (ab (!(a == b)) (K (.aA [.list 4 .nil [],pB false]) u0) (d () u0))) (ab (!(a == b)) (K (.aA [.list 4 .nil [],pB false]) u0) (d () u0)))) (λW Q=> aa prog 224 [.agg [pI 1,pS i,pI 0,pS ⟨#[]⟩,pI 0,.list 3 .sh []],.agg [pI n,pS o,pI p],.list 4 x w] Q λS y=> ∃C B D,S=(.aA [.list 4 C B,pB D])/\ ab (!D) (K (.aA [.list 4 .nil [],pB false]) y) (aa prog 225 [.list 6 k j,.agg [pI q,pS r,pI s],.list 4 C B] y λT z=> ∃F E G,T=(.aA [.list 4 F E,pB G])/\ ab (!G) (K (.aA [.list 4 .nil [],pB false]) z) (aa prog 225 [.list 6 m l,.agg [pI t,pS u,pI v],.list 4 F E] z λU A=> ∃I H J,U=(.aA [.list 4 I H,pB J])/\ ab (!J) (K (.aA [.list 4 .nil [],pB false]) A) (aa prog 174 [.list 4 I H] A λV R=> ∃M L,V=(.list 4 M L)/\ K (.aA [.list 4 M L,pB true]) R))))):aa prog 176 [.agg [pI e,pB f,pS i,.list 6 k j,.list 6 m l,pB a,.list 7 O N],.agg [pI n,pS o,pI p,pI q,pS r,pI s,pI t,pS u,pI v,pB b,pB g,pI P],.list 4 x w] u0 K:= VC [3,4] [] [(3,⟨[],[]⟩)] [] [] [] [] func176 h
theorem Lp.c{l:Fl}{b:Lq}{e:ByteArray}(h: ao (α:=Int) (λm a d=> ab (decide (a<(b.length:Int))) (0<=a/\∃(f:List PV),(b)[toNat a]?=some f/\ ∃g i j k,aE f 0 4=some [pS g,pI i,pS j,pI k]/\ ab (aK g e) (K (.aA [.agg [pI i,pS j,pI k],pB true]) d) (m (wrap .i64 (a+1)) d)) (K (.aA [.agg [pI 0,pS ⟨#[]⟩,pI 0],pB false]) d)) (0) u0):aa prog 177 [.list 4 l b,pS e] u0 K:= VC [4,7] [(2,⟨[(10,.one (.raw (.int .i64)))],[(4,3)]⟩)] [] [] [] [] [] func177 h
theorem B_.c{a:Option Addr}{b:Int}(h: K (.fn (.func 226) [] [.bk [pA a] 0,.bk [pI b] 0]) u0):aa prog 178 [pA a,pI b] u0 K:= VC [] [] [] [] [2,3] [] [] func178 h
theorem ud.c{b:Fn}{d e f g:List PV}(h: cg u0 150 [.fn b d e] λP i=> ∃N,aE f 0 1=some [pA N]/\ nP N λO Q=> ∃n,ay i O (Q+5) 1=some [pA n]/\ ∃o p q,aE g 0 3=some [pI o,pS p,pI q]/\ aa prog 129 [pA n,.agg [pI o,pS p,pI q]] i λT j=> ∃r s,T=(.aA [pA r,pB s])/\ ab (!s) (K (.aA []) j) (aa prog 77 [pA r] j λU S=> ∃t u v,U=(.fn t u v)/\ bu prog (.fn t u v) (λW a k=> ∃w x y z A B C D E F G H,W=[.agg [pI w,pS x,pI y,pI z,pS A,pI B,pI C,pS D,pI E,pB F,pB G,pI H]]/\ ∃I J L,ay k P 0 1=some [.fn I J L]/\ bJ prog (.fn I J L) [.agg [pI w,pS x,pI y,pI z,pS A,pI B,pI C,pS D,pI E,pB F,pB G,pI H]] k λV m=> ∃M,V=(pB M)/\ ab (!M) (a (some .ret) m) (a none m)) (λR l=> PK R (K (.aA []) l) (K (.aA []) l) []) S)):aa prog 179 [.fn b d e,.bk f 0,.bk g 0] u0 K:= VC [6] [] [] [(20,[129])] [] [] [] func179 h
theorem xW.c{d:Option Addr}{e o:Int}{f k:Bool}{g:ByteArray}{E F G n:Fl}{i j l m:Lq}(h: cg u0 4 [pB false] λa b=> nP d λH J=> ∃u,ay b H J 1=some [pA u]/\ nP d λI L=> ∃U v,ay b I (L+1) 1=some [.list 1 U v]/\ 0<=o/\∃(s:List PV),(v)[toNat o]?=some s/\ ∃w,aE s 0 1=some [pI w]/\ cV prog 116 [pA u,.agg [pI e,pB f,pS g,.list 6 .sh i,.list 6 .sh j,pB k,.list 7 .sh l],.list 4 n m,pI w] b λR N=> ∃x y z,R=(.fn x y z)/\ aa prog 115 [.agg [pI e,pB f,pS g,.list 6 .sh i,.list 6 .sh j,pB k,.list 7 .sh l],.fn x y z,.list 4 n m] (Mem.or b N) λS O=> ∃A B C,S=(.fn A B C)/\ bu prog (.fn A B C) (λT D P=> ∃V W X Y Z a0 a1 a2 a3 a4 a5 a6 a8 a7,T=[.agg [pI V,pS W,pI X,pI Y,pS Z,pI a0,pI a1,pS a2,pI a3,pB a4,pB a5,pI a6],.list 4 a8 a7]/\ stM a 0 [pB true] P λQ=> D (some .ret) Q) (λM p=> PK M (stM a 0 [pB false] p λt=> ∃q,ay t a 0 1=some [pB q]/\ K (pB q) t) (∃r,ay p a 0 1=some [pB r]/\ K (pB r) p) []) O):aa prog 180 [pA d,.agg [pI e,pB f,pS g,.list 6 E i,.list 6 F j,pB k,.list 7 G l],.list 4 n m,pI o] u0 K:= VC [5] [] [] [(26,[88,121])] [] [] [] func180 h
theorem Gq.c{b:Fl}{a:Lq}(h: aa prog 164 [.list 7 b a,pI 0,pI 0,.fn (.func 228) [] []] u0 λf e=> ∃d g,f=(.aA [pI d,pB g])/\ K (pI d) e):aa prog 181 [.list 7 b a] u0 K:= VC [] [] [] [] [] [] [] func181 h
theorem IY.c{a:Int}(h: ab (decide (a>=65)) (K (pB (decide (a<=90))) u0) (K (pB false) u0)):aa prog 185 [.raw (.int .u8 a)] u0 K:= VC [] [] [] [] [] [] [] func185 h
theorem Lr.c{b:ByteArray}(h: ab (decide ((((ByteArray.size b:Nat):Int):Int)<1)) (K (pB false) u0) (ab (decide ((((ByteArray.size b:Nat):Int):Int)>32)) (K (pB false) u0) ((0:Int)<=0/\∃Tw:UInt8,b[toNat 0]?=some Tw/\ aa prog 229 [.raw (.int .u8 ((UInt8.toNat Tw:Nat):Int))] u0 λm f=> ∃j,m=(pB j)/\ ab (!j) (K (pB false) f) (ao (α:=Int) (λd a g=> ab (decide (a<((ByteArray.size b:Nat):Int))) (0<=a/\∃c26:UInt8,b[toNat a]?=some c26/\ aa prog 229 [.raw (.int .u8 ((UInt8.toNat c26:Nat):Int))] g λn i=> ∃k,n=(pB k)/\ ab (!k) (0<=a/\∃c32:UInt8,b[toNat a]?=some c32/\ aa prog 230 [.raw (.int .u8 ((UInt8.toNat c32:Nat):Int))] i λo e=> ∃l,o=(pB l)/\ ab (!l) (0<=a/\∃c39:UInt8,b[toNat a]?=some c39/\ ab ((((UInt8.toNat c39:Nat):Int):Int) != 45) (0<=a/\∃c45:UInt8,b[toNat a]?=some c45/\ ab ((((UInt8.toNat c45:Nat):Int):Int) != 95) (K (pB false) e) (d (wrap .i64 (a+1)) e)) (d (wrap .i64 (a+1)) e)) (d (wrap .i64 (a+1)) e)) (d (wrap .i64 (a+1)) i)) (K (pB true) g)) (1) f)))):aa prog 186 [pS b] u0 K:= VC [] [(4,⟨[(3,.one (.raw (.int .i64)))],[]⟩)] [] [] [] [] [] func186 h
theorem gd.c{a d:Int}{b:ByteArray}(h: K (.agg [pI a,pS b,pI d,pA none]) u0):aa prog 188 [.agg [pI a,pS b,pI d]] u0 K:= VC [1,2] [] [] [] [] [] [] func188 h
theorem sg.c{o:Fl}{b:Lq}(h: ao (α:=Int) (λp a e=> ab (decide (a<(b.length:Int))) (0<=a/\∃(d:List PV),(b)[toNat a]?=some d/\ ∃g i j k l r m,aE d 0 6=some [pI g,pS i,pI j,pS k,pI l,.list 3 r m]/\ aa prog 234 [.agg [pI g,pS i,pI j,pS k,pI l,.list 3 .sh m]] e λq f=> ∃n,q=(pB n)/\ ab (!n) (K (pB false) f) (p (wrap .i64 (a+1)) f)) (K (pB true) e)) (0) u0):aa prog 195 [.list 6 o b] u0 K:= VC [] [(2,⟨[(3,.one (.raw (.int .i64)))],[]⟩)] [] [] [] [] [] func195 h
theorem mz.c{b:Fl}{a:Lq}(h: aW false 3 32 .nil [] a u0 λd e=> K (.list 3 d ([]++a)) e):aa prog 196 [.list 3 b a] u0 K:= VC [] [] [] [] [] [] [] func196 h
theorem yd.c{A j l:Fl}{b i k:Lq}{g:Int}{d:Option Addr}(h: ao (α:=Int×(Fl×Lq)×Int) (λC a e=> ab (decide (a.2.2<(b.length:Int))) (nP d λB D=> ∃o,ay e B (D+2) 1=some [pB o]/\ ab (!o) (0<=a.2.2/\∃(m:List PV),(b)[toNat a.2.2]?=some m/\ ∃p q r L s M t u N v,aE m 0 7=some [pI p,pB q,pS r,.list 6 L s,.list 6 M t,pB u,.list 7 N v]/\ aa prog 235 [.agg [pI p,pB q,pS r,.list 6 .sh s,.list 6 .sh t,pB u,.list 7 .sh v],pI a.1,.list 3 a.2.1.1 a.2.1.2,.list 12 l k,pA d] e λH E=> ∃w f,H=(.list 3 w f)/\ aa prog 236 [pA d,pI a.1,pI (f.length:Int)] E λI F=>
 I=(.aA [])/\ 0<=a.2.2/\∃(n:List PV),(b)[toNat a.2.2]?=some n/\ ∃y x,aE n 6 1=some [.list 7 y x]/\ aa prog 37 [.list 7 y x] F λJ G=> ∃z,J=(pI z)/\ C ((wrap .i64 (a.1+(wrap .i64 (1+z)))),(w,f),(wrap .i64 (a.2.2+1))) G) (K (.list 3 a.2.1.1 a.2.1.2) e)) (K (.list 3 a.2.1.1 a.2.1.2) e)) (g,(j,i),0) u0):aa prog 197 [.list 7 A b,pI g,.list 3 j i,.list 12 l k,pA d] u0 K:= VC [] [(2,⟨[(1,.one (.raw (.int .i64))),(2,.one (.list 3)),(11,.one (.raw (.int .i64)))],[]⟩)] [] [] [] [] [] func197 h
theorem uh.c{p q:Fl}{b d:Lq}(h: bZ (α:=Unit) (λf=> ao (α:=Int) (λr a e=> ab (decide (a<(b.length:Int))) (ab (decide (a<(d.length:Int))) (0<=a/\∃(g:List PV),(b)[toNat a]?=some g/\ ∃l,aE g 0 1=some [pI l]/\ 0<=a/\∃(i:List PV),(d)[toNat a]?=some i/\ ∃m,aE i 0 1=some [pI m]/\ ab (l != m) (0<=a/\∃(j:List PV),(b)[toNat a]?=some j/\ ∃n,aE j 0 1=some [pI n]/\ 0<=a/\∃(k:List PV),(d)[toNat a]?=some k/\ ∃o,aE k 0 1=some [pI o]/\ K (pB (decide (n<o))) e) (r (wrap .i64 (a+1)) e)) (f () e)) (f () e)) (0) u0) (λt s=> K (pB (decide ((b.length:Int)<(d.length:Int)))) s)):aa prog 198 [.list 1 p b,.list 1 q d] u0 K:= VC [] [(2,⟨[(5,.one (.raw (.int .i64)))],[]⟩)] [(6,⟨[],[]⟩)] [] [] [] [] func198 h
theorem zj.c{b f g:Int}{i o:Bool}{j:ByteArray}{l n q:Fl}{k m p:Lq}{a:Nat}(h: stM a 0 [pI (wrap .i64 (b+1))] u0 λd=> ∃e,ay d a 0 1=some [pI e]/\ K (pB (decide (e<=16))) d):aa prog 206 [pI b,pI f,.agg [pI g,pB i,pS j,.list 6 l k,.list 6 n m,pB o,.list 7 q p],pP a 0] u0 K:= VC [6] [] [] [] [] [] [] func206 h
theorem zi.c{d e f:Int}{g l:Bool}{i:ByteArray}{t u v:Fl}{j k m:Lq}{a n:Nat}(h: aa prog 208 [.agg [pI f,pB g,pS i,.list 6 .sh j,.list 6 .sh k,pB l,.list 7 .sh m],pI e] u0 λx w=> ∃p,x=(pI p)/\ stM a 0 [pI p] w λb=> ∃q,ay b a 0 1=some [pI q]/\ ab (q != 0) (stM n 0 [pI d] b λo=> ∃r,ay o a 0 1=some [pI r]/\ K (pB (r == 0)) o) (∃s,ay b a 0 1=some [pI s]/\ K (pB (s == 0)) b)):aa prog 207 [pI d,pI e,.agg [pI f,pB g,pS i,.list 6 t j,.list 6 u k,pB l,.list 7 v m],pP a 0,pP n 0] u0 K:= VC [7] [] [] [] [] [] [] func207 h
theorem Gn.c{a n:Int}{j m:Bool}{f:ByteArray}{k l u:Fl}{b e g:Lq}(h: bZ (α:=Unit) (λi=> ab (a == 3) (ab j (K (pI 9) u0) (ab (!aK f ⟨#[]⟩) (K (pI 9) u0) (ab (decide ((b.length:Int)>0)) (K (pI 9) u0) (ab (decide ((e.length:Int)>0)) (K (pI 9) u0) (ab m (K (pI 9) u0) (ab ((g.length:Int) == 0) (K (pI 9) u0) (ab (decide (n>=3)) (K (pI 8) u0) (K (pI 0) u0)))))))) (ab (a == 1) (ab (a == 1) (i () u0) (K (pI 9) u0)) (ab (a == 2) (i () u0) (K (pI 9) u0)))) (λy o=> ab (decide ((g.length:Int)>0)) (K (pI 9) o) (aa prog 186 [pS f] o λv d=> ∃r,v=(pB r)/\ ab (!r) (K (pI 9) d) (ab ((b.length:Int) == 0) (K (pI 9) d) (ab (decide ((b.length:Int)>4)) (K (pI 7) d) (ab (decide ((e.length:Int)>4)) (K (pI 7) d) (aa prog 242 [.list 6 k b] d λw p=> ∃s,w=(pB s)/\ ab (!s) (K (pI 9) p) (aa prog 242 [.list 6 l e] p λx q=> ∃t,x=(pB t)/\ ab (!t) (K (pI 9) q) (K (pI 0) q))))))))):aa prog 208 [.agg [pI a,pB j,pS f,.list 6 k b,.list 6 l e,pB m,.list 7 u g],pI n] u0 K:= VC [2] [] [(11,⟨[],[]⟩)] [] [] [] [] func208 h
theorem Ja.c{i j l o q s u d f:ByteArray}{k m n p r t v a e g:Int}(h: aa prog 186 [pS i] u0 λH w=> ∃E,H=(pB E)/\ ab (!E) (K (pB false) w) (aa prog 243 [.agg [pS j,pI k,pS l,pI m]] w λI x=> ∃z,I=(pB z)/\ ab (!z) (K (pB false) x) (aa prog 244 [.agg [pI n,pS o,pI p,pS q,pI r,pS s,pI t,pS u,pI v]] x λJ b=> ∃A,J=(pB A)/\ ab (!A) (K (pB false) b) (ab (decide (a<1)) (K (pB false) b) (ab (decide (a>10)) (K (pB false) b) (aa prog 245 [pI a] b λL y=> ∃B,L=(pB B)/\ ab B (aa prog 243 [.agg [pS d,pI e,pS f,pI g]] y λM F=> ∃C,M=(pB C)/\ K (pB C) F) (aa prog 246 [.agg [pS d,pI e,pS f,pI g]] y λN G=> ∃D,N=(pB D)/\ K (pB D) G))))))):aa prog 209 [.agg [pS i,pS j,pI k,pS l,pI m,pI n,pS o,pI p,pS q,pI r,pS s,pI t,pS u,pI v,pI a,pS d,pI e,pS f,pI g]] u0 K:= VC [1] [] [] [] [] [] [] func209 h
theorem mh.c{a:Option Addr}{f:ByteArray}(h: ab (Option.isNone a) (K (pB false) u0) (aa prog 247 [pA a,pS f] u0 λW g=> ∃e k,W=(.aA [pI e,pB k])/\ ab k (K (pB false) g) (aa prog 248 [pA a] g λX i=>
 X=(.aA [])/\ nP a λw G=> ∃l n m,ay i w G 1=some [pV l n m]/\ gP 1 16 292 l n m (.list 1 .nr [[pS f]]) i λQ S R T=> nP a λx H=> stM x H [pV Q S R] T λj=> nP a λy I=> ∃Y o Z,ay j y I 1=some [pV Y o Z]/\ ao (α:=Int) (λF b d=> ab (decide (b>e)) (nP a λz J=> ∃p q a0,ay d z J 1=some [pV p q a0]/\ nP a λA L=> ∃r s a1,ay d A L 1=some [pV r s a1]/\ bH r λB M=> 0<=(wrap .i64 (b-1))/\(wrap .i64 (b-1))<((s:Nat):Int)/\ ∃t,ay d B (M+toNat (wrap .i64 (b-1))*1) 1=some [pS t]/\ bH p λC N=> 0<=b/\b<((q:Nat):Int)/\ stM C (N+toNat b*1) [pS t] d λU=> F (wrap .i64 (b-1)) U) (nP a λD O=> ∃u v a2,ay d D O 1=some [pV u v a2]/\ bH u λE P=> 0<=e/\e<((v:Nat):Int)/\ stM E (P+toNat e*1) [pS f] d λV=> K (pB true) V)) (wrap .i64 (((o:Nat):Int)-1)) j))):aa prog 210 [pA a,pS f] u0 K:= VC [] [(9,⟨[(7,.one (.raw (.int .i64)))],[]⟩)] [] [] [] [] [23,32,43,48,57] func210 h
theorem rZ.c{a:Option Addr}(h: nP a λe g=> ∃b,ay u0 e g 1=some [pA b]/\ aa prog 249 [pA b] u0 λk i=> ∃d,k=(pA d)/\ cg i 294 [pA d,.list 1 .nil []] λf j=> K (pP f 0) j):aa prog 211 [pA a] u0 K:= VC [] [] [] [] [] [] [] func211 h
theorem vX.c{a:Option Addr}{p:Int}{e q:Bool}{b:ByteArray}{g j s:Fl}{f i r:Lq}(h: bZ (α:=Unit) (λd=> ab e (aa prog 250 [pA a,pS b] u0 λw u=>
 w=(.aA [])/\ d () u) (d () u0)) (λA t=> aa prog 213 [pA a,pS b] t λx k=> ∃m,x=(pB m)/\ ab m (aa prog 251 [pA a,.list 6 g f] k λy l=> ∃n,y=(pB n)/\ ab n (aa prog 251 [pA a,.list 6 j i] l λz v=> ∃o,z=(pB o)/\ K (pB o) v) (K (pB false) l)) (K (pB false) k))):aa prog 212 [pA a,.agg [pI p,pB e,pS b,.list 6 g f,.list 6 j i,pB q,.list 7 s r]] u0 K:= VC [3] [] [(3,⟨[],[]⟩)] [] [] [] [] func212 h
theorem vZ.c{a:Option Addr}{b:ByteArray}(h: nP a λf g=> ∃d,ay u0 f g 1=some [pA d]/\ aa prog 252 [pA d,pS b] u0 λj i=> ∃k e,j=(.aA [pI k,pB e])/\ K (pB e) i):aa prog 213 [pA a,pS b] u0 K:= VC [] [] [] [] [] [] [] func213 h
theorem CZ.c{n:Fl}{e:Lq}(h: ao (α:=(Fl×Lq)×Int) (λl a f=> ab (decide (a.2<(e.length:Int))) (0<=a.2/\∃(m:List PV),(e)[toNat a.2]?=some m/\ ∃g b i j k r d,aE m 0 6=some [pI g,pS b,pI i,pS j,pI k,.list 3 r d]/\ ab (aK b ⟨#[]⟩) (aW false 3 32 .nil [] d f λs p=> aW false 6 80 a.1.1 a.1.2 [[pI g,pS b,pI i,pS j,pI k,.list 3 .sh ([]++d)]] p λo q=> l ((o,(a.1.2++[[pI g,pS b,pI i,pS j,pI k,.list 3 .sh ([]++d)]])),(wrap .i64 (a.2+1))) q) (l ((a.1.1,a.1.2),(wrap .i64 (a.2+1))) f)) (K (.list 6 a.1.1 a.1.2) f)) ((.nil,[]),0) u0):aa prog 214 [.list 6 n e] u0 K:= VC [5] [(3,⟨[(3,.one (.list 6)),(8,.one (.raw (.int .i64)))],[]⟩)] [] [] [] [] [] func214 h
theorem dP.c{a:Option Addr}(h: K (.fn (.func 253) [] [.bk [pA a] 0]) u0):aa prog 216 [pA a] u0 K:= VC [] [] [] [] [1] [] [] func216 h
theorem ia.c{a:Int}(h: K (.agg [pI a,pI 0,pB false,pS ⟨#[]⟩,.list 6 .nil [],.list 6 .nil [],pB false,.list 7 .nil [],pI 0,pA none]) u0):aa prog 218 [pI a] u0 K:= VC [2] [] [] [] [] [] [] func218 h
theorem eH.c{a:Option Addr}(h: K (.fn (.func 255) [] [.bk [pA a] 0]) u0):aa prog 221 [pA a] u0 K:= VC [] [] [] [] [1] [] [] func221 h
theorem Ln.c{b n p d f:Int}{g o e:ByteArray}{A i:Fl}{k a:Lq}(h: ab (b == 8) (ao (α:=Int) (λC j l=> ab (decide (j<(k.length:Int))) (0<=j/\∃(q:List PV),(k)[toNat j]?=some q/\ ∃r s t,aE q 0 3=some [pI r,pS s,pI t]/\ ab ((r == d)&&(aK s e&&((t == f)&&true))) (K (.aA [.list 4 i a,pB true]) l) (C (wrap .i64 (j+1)) l)) (K (.aA [.list 4 .nil [],pB false]) l)) (0) u0) (ab (decide (b<1)) (K (.aA [.list 4 .nil [],pB false]) u0) (ab (decide (b>7)) (K (.aA [.list 4 .nil [],pB false]) u0) (ab (aK g ⟨#[]⟩) (aa prog 257 [pI b,.agg [pI d,pS e,pI f],.agg [pI n,pS o,pI p]] u0 λG D=> ∃u,G=(pB u)/\ K (.aA [.list 4 i a,pB u]) D) (aa prog 177 [.list 4 i a,pS g] u0 λH m=> ∃v w x y,H=(.aA [.agg [pI v,pS w,pI x],pB y])/\ ab y (aa prog 257 [pI b,.agg [pI d,pS e,pI f],.agg [pI v,pS w,pI x]] m λI E=> ∃z,I=(pB z)/\ K (.aA [.list 4 i a,pB z]) E) (ab (b != 1) (K (.aA [.list 4 .nil [],pB false]) m) ((0:Int)<=(0:Int)/\0<=(a.length:Int)/\(a.length:Int)<=(a.length:Int)/\(a.length:Int)=(a.length:Int)/\ aW false 4 48 .nr (drop (toNat (0:Int)) (take (toNat (a.length:Int)) a)) [[pS g,pI d,pS e,pI f]] m λB F=> K (.aA [.list 4 B ((drop (toNat (0:Int)) (take (toNat (a.length:Int)) a))++[[pS g,pI d,pS e,pI f]]),pB true]) F))))))):aa prog 224 [.agg [pI b,pS g,pI n,pS o,pI p,.list 3 A k],.agg [pI d,pS e,pI f],.list 4 i a] u0 K:= VC [3,4,9,10] [(3,⟨[(18,.one (.raw (.int .i64)))],[]⟩)] [] [] [] [] [] func224 h
theorem Lo.c{v i:Fl}{b g:Lq}{d f:Int}{e:ByteArray}(h: ao (α:=(Fl×Lq)×Int) (λw a k=> ab (decide (a.2<(b.length:Int))) (0<=a.2/\∃(j:List PV),(b)[toNat a.2]?=some j/\ ∃m n o p q y r,aE j 0 6=some [pI m,pS n,pI o,pS p,pI q,.list 3 y r]/\ aa prog 224 [.agg [pI m,pS n,pI o,pS p,pI q,.list 3 .sh r],.agg [pI d,pS e,pI f],.list 4 a.1.1 a.1.2] k λx l=> ∃t s u,x=(.aA [.list 4 t s,pB u])/\ ab (!u) (K (.aA [.list 4 .nil [],pB false]) l) (w ((t,s),(wrap .i64 (a.2+1))) l)) (K (.aA [.list 4 a.1.1 a.1.2,pB true]) k)) ((i,g),0) u0):aa prog 225 [.list 6 v b,.agg [pI d,pS e,pI f],.list 4 i g] u0 K:= VC [4,9] [(2,⟨[(2,.one (.list 4)),(14,.one (.raw (.int .i64)))],[]⟩)] [] [] [] [] [] func225 h
theorem yg.c{i:Fn}{j k n o:List PV}(h: cg u0 150 [.fn i j k] λb6 a=> bZ (α:=Option Addr×Bool) (λf=> ∃b4,aE n 0 1=some [pA b4]/\ nP b4 λb5 b8=> ∃d,ay a b5 (b8+1) 1=some [pA d]/\ ∃e,aE o 0 1=some [pI e]/\ (aa prog 182 [pA d,pI e] a λc8 c1=> ∃t v x C z G D H N J O Q S,c8=(.aA [.agg [pI t,pB v,pS x,.list 6 C z,.list 6 G D,pB H,.list 7 N J,pI O,pA Q],pB S])/\ cg c1 196 [pI 0,pB false,pS ⟨#[]⟩,.list 6 .nil [],.list 6 .nil [],pB false,.list 7 .nil [],pI 0,pA none] λl c2=> stM l 0 [pI t,pB v,pS x,.list 6 C z,.list 6 G D,pB H,.list 7 N J,pI O,pA Q] c2 λc3=> f ((some ⟨l,0,none⟩),S) c3)/\ (cg a 196 [pI 0,pB false,pS ⟨#[]⟩,.list 6 .nil [],.list 6 .nil [],pB false,.list 7 .nil [],pI 0,pA none] λm c4=> aa prog 182 [pA d,pI e] c4 λc9 c5=> ∃u w y B A F E I M L P R T,c9=(.aA [.agg [pI u,pB w,pS y,.list 6 B A,.list 6 F E,pB I,.list 7 M L,pI P,pA R],pB T])/\ stM m 0 [pI u,pB w,pS y,.list 6 B A,.list 6 F E,pB I,.list 7 M L,pI P,pA R] c5 λc6=> f ((some ⟨m,0,none⟩),T) c6)) (λp b=> ab (!p.2) (K (.aA []) b) (aU (pA p.1) λb7 b9=> ∃U,ay b b7 (b9+8) 1=some [pA U]/\ aa prog 227 [pA U] b λd0 c7=> ∃V W X,d0=(.fn V W X)/\ bu prog (.fn V W X) (λd2 g s=> ∃Y Z a0 a1 a2 a3 a4 a5 a6 a7 a8 a9,d2=[.agg [pI Y,pS Z,pI a0,pI a1,pS a2,pI a3,pI a4,pS a5,pI a6,pB a7,pB a8,pI a9]]/\ ∃b0 b1 b2,ay s b6 0 1=some [.fn b0 b1 b2]/\ bJ prog (.fn b0 b1 b2) [.agg [pI Y,pS Z,pI a0,pI a1,pS a2,pI a3,pI a4,pS a5,pI a6,pB a7,pB a8,pI a9]] s λd1 r=> ∃b3,d1=(pB b3)/\ ab (!b3) (g (some .ret) r) (g none r)) (λc0 q=> PK c0 (K (.aA []) q) (K (.aA []) q) []) c7))):aa prog 226 [.fn i j k,.bk n 0,.bk o 0] u0 K:= VC [6] [] [(2,⟨[(4,.one (.raw .ptr)),(5,.one (.raw .bool))],[]⟩)] [(21,[305])] [] [] [] func226 h
theorem kC.c{a:Option Addr}(h: K (.fn (.func 258) [] [.bk [pA a] 0]) u0):aa prog 227 [pA a] u0 K:= VC [] [] [] [] [1] [] [] func227 h
theorem BR.c{a b d:Int}{e l:Bool}{f:ByteArray}{i k n:Fl}{g j m:Lq}(h: K (pB true) u0):aa prog 228 [pI a,pI b,.agg [pI d,pB e,pS f,.list 6 i g,.list 6 k j,pB l,.list 7 n m]] u0 K:= VC [5] [] [] [] [] [] [] func228 h
theorem IX.c{a:Int}(h: ab (decide (a>=97)) (K (pB (decide (a<=122))) u0) (K (pB false) u0)):aa prog 229 [.raw (.int .u8 a)] u0 K:= VC [] [] [] [] [] [] [] func229 h
theorem IZ.c{a:Int}(h: ab (decide (a>=48)) (K (pB (decide (a<=57))) u0) (K (pB false) u0)):aa prog 230 [.raw (.int .u8 a)] u0 K:= VC [] [] [] [] [] [] [] func230 h
theorem jk.c{a:Int}(h: K (.agg [pI a,pI 0,pS ⟨#[]⟩,pI 0,pI 0,pS ⟨#[]⟩,pI 0,pI 0,pS ⟨#[]⟩,pI 0,pB false,pB false,pI 0]) u0):aa prog 232 [pI a] u0 K:= VC [2] [] [] [] [] [] [] func232 h
theorem uj.c{b f i:Int}{e g:ByteArray}{r:Fl}{a:Lq}(h: ab (b == 8) (ab (!aK e ⟨#[]⟩) (K (pB false) u0) (ab (!((f == 0)&&(aK g ⟨#[]⟩&&((i == 0)&&true)))) (K (pB false) u0) (ab (decide ((a.length:Int)<1)) (K (pB false) u0) (ab (decide ((a.length:Int)>8)) (K (pB false) u0) (ao (α:=Int) (λs d k=> ab (decide (d<(a.length:Int))) (0<=d/\∃(j:List PV),(a)[toNat d]?=some j/\ ∃m n o,aE j 0 3=some [pI m,pS n,pI o]/\ aa prog 145 [.agg [pI m,pS n,pI o]] k λu l=> ∃p,u=(pB p)/\ ab (!p) (K (pB false) l) (s (wrap .i64 (d+1)) l)) (K (pB true) k)) (0) u0))))) (ab (decide (b>=1)) (ab (decide (b<=7)) (ab ((a.length:Int) == 0) (aa prog 140 [.agg [pS e,pI f,pS g,pI i]] u0 λv t=> ∃q,v=(pB q)/\ K (pB q) t) (K (pB false) u0)) (K (pB false) u0)) (K (pB false) u0))):aa prog 234 [.agg [pI b,pS e,pI f,pS g,pI i,.list 3 r a]] u0 K:= VC [1] [(5,⟨[(3,.one (.raw (.int .i64)))],[]⟩)] [] [] [] [] [] func234 h
theorem l_.c{p Z:Int}{T X:Bool}{U:ByteArray}{d7 d8 Y d9 a0:Fl}{V W w j q:Lq}{x:Option Addr}(h: ab (p == 3) (ao (α:=(Fl×Lq)×Int) (λf6 i b1=> ab (decide (i.2<(j.length:Int))) (0<=i.2/\∃(a7:List PV),(j)[toNat i.2]?=some a7/\ ∃j0 N,aE a7 1 1=some [.list 4 j0 N]/\ aW false 3 56 i.1.1 i.1.2 [[.list 1 .sh [],.list 4 .sh N,pI i.2]] b1 λf4 f8=> f6 ((f4,(i.1.2++[[.list 1 .sh [],.list 4 .sh N,pI i.2]])),(wrap .i64 (i.2+1))) f8) (aa prog 197 [.list 7 Y w,pI (wrap .i64 (Z+1)),.list 3 i.1.1 i.1.2,.list 12 a0 q,pA x] b1 λi4 g6=> ∃c0 b9,i4=(.list 3 c0 b9)/\ ao (α:=(Fl×Lq)×Int) (λa4 g b4=> ab (decide (g.2<(j.length:Int))) (aa prog 260 [.list 3 c0 b9,pI g.2] b4 λi5 b6=> ∃c1,i5=(pB c1)/\ ab (!c1) (0<=g.2/\∃(a8:List PV),(j)[toNat g.2]?=some a8/\ ∃j1 O j2 P Q,aE a8 0 3=some [.list 1 j1 O,.list 4 j2 P,pI Q]/\ aW false 3 56 g.1.1 g.1.2 [[.list 1 .sh O,.list 4 .sh P,pI Q]] b6 λf5 i2=> a4 ((f5,(g.1.2++[[.list 1 .sh O,.list 4 .sh P,pI Q]])),(wrap .i64 (g.2+1))) i2) (a4 ((g.1.1,g.1.2),(wrap .i64 (g.2+1))) b6)) (K (.list 3 g.1.1 g.1.2) b4)) ((.nil,[]),0) g6)) ((.nil,[]),0) u0) (ao (α:=(Fl×Lq)×Int) (λy f b7=> ab (decide (f.2<(j.length:Int))) (bZ (α:=(Fl×Lq)×Bool) (λR=> ao (α:=(Fl×Lq)×Bool×Int) (λz a u=> bZ (α:=Unit) (λS=> ab (decide (a.2.2<(q.length:Int))) (ab (p == 1) (S () u) (ab a.2.1 (S () u) (R ((a.1.1,a.1.2),a.2.1) u))) (R ((a.1.1,a.1.2),a.2.1) u)) (λk3 i3=> 0<=a.2.2/\∃(a9:List PV),(q)[toNat a.2.2]?=some a9/\ ∃c2 c3 c4 c5 c6 c7 c8 c9 d0 d1 d2 d3,aE a9 0 12=some [pI c2,pS c3,pI c4,pI c5,pS c6,pI c7,pI c8,pS c9,pI d0,pB d1,pB d2,pI d3]/\ 0<=f.2/\∃(b0:List PV),(j)[toNat f.2]?=some b0/\ ∃d5 d4,aE b0 1 1=some [.list 4 d5 d4]/\ aa prog 261 [.agg [pI p,pB T,pS U,.list 6 .sh V,.list 6 .sh W,pB X,.list 7 .sh w],.agg [pI c2,pS c3,pI c4,pI c5,pS c6,pI c7,pI c8,pS c9,pI d0,pB d1,pB d2,pI d3],.list 4 d5 d4] i3 λi6 n=> ∃j3 e d6,i6=(.aA [.list 4 j3 e,pB d6])/\ ab (!d6) (z ((a.1.1,a.1.2),a.2.1,(wrap .i64 (a.2.2+1))) n) (ab (p == 1) (bZ (α:=(Fl×Lq)) (λk=> 0<=f.2/\∃(a5:List PV),(j)[toNat f.2]?=some a5/\ ∃i7 b,aE a5 0 1=some [.list 1 i7 b]/\ 0<=a.2.2/\∃(t:List PV),(q)[toNat a.2.2]?=some t/\ 0<=f.2/\∃(l:List PV),(j)[toNat f.2]?=some l/\ (∃d,aE t 11 1=some [pI d]/\ (∃s,aE l 2 1=some [pI s]/\ (aW false 1 8 .nil [] b n λe1 f9=> ((aW false 1 8 e1 ([]++b) [[pI d]] f9 λj4 g0=> ((aW false 3 56 a.1.1 a.1.2 [[.list 1 .sh (([]++b)++[[pI d]]),.list 4 .sh e,pI s]] g0 λe4 g1=> k (e4,(a.1.2++[[.list 1 .sh (([]++b)++[[pI d]]),.list 4 .sh e,pI s]])) g1)/\ True)/\ True)/\ True)/\ True)/\ ((aW false 1 8 .nil [] b n λe2 g2=> (aW false 1 8 e2 ([]++b) [[pI d]] g2 λj5 g3=> ((aW false 3 56 a.1.1 a.1.2 [[.list 1 .sh (([]++b)++[[pI d]]),.list 4 .sh e,pI s]] g3 λe5 g4=> k (e5,(a.1.2++[[.list 1 .sh (([]++b)++[[pI d]]),.list 4 .sh e,pI s]])) g4)/\ True)/\ True)/\ True)/\ True)/\ True)/\ (aW false 1 8 .nil [] b n λa1 b2=> (∃C,aE l 2 1=some [pI C]/\ ((aW false 1 8 a1 ([]++b) [[pI d]] b2 λj6 g5=> ((aW false 3 56 a.1.1 a.1.2 [[.list 1 .sh (([]++b)++[[pI d]]),.list 4 .sh e,pI C]] g5 λe6 g7=> k (e6,(a.1.2++[[.list 1 .sh (([]++b)++[[pI d]]),.list 4 .sh e,pI C]])) g7)/\ True)/\ True)/\ True)/\ True)/\ ((aW false 1 8 a1 ([]++b) [[pI d]] b2 λj7 g8=> ∃D,aE l 2 1=some [pI D]/\ ((aW false 3 56 a.1.1 a.1.2 [[.list 1 .sh (([]++b)++[[pI d]]),.list 4 .sh e,pI D]] g8 λe7 g9=> k (e7,(a.1.2++[[.list 1 .sh (([]++b)++[[pI d]]),.list 4 .sh e,pI D]])) g9)/\ True)/\ True)/\ True)/\ True)/\ ((aW false 1 8 .nil [] b n λa2 b3=> (∃E,aE l 2 1=some [pI E]/\ (aW false 1 8 a2 ([]++b) [[pI d]] b3 λj8 h0=> ((aW false 3 56 a.1.1 a.1.2 [[.list 1 .sh (([]++b)++[[pI d]]),.list 4 .sh e,pI E]] h0 λe8 h1=> k (e8,(a.1.2++[[.list 1 .sh (([]++b)++[[pI d]]),.list 4 .sh e,pI E]])) h1)/\ True)/\ True)/\ True)/\ (aW false 1 8 a2 ([]++b) [[pI d]] b3 λj9 h2=> ∃F,aE l 2 1=some [pI F]/\ ((aW false 3 56 a.1.1 a.1.2 [[.list 1 .sh (([]++b)++[[pI d]]),.list 4 .sh e,pI F]] h2 λe9 h3=> k (e9,(a.1.2++[[.list 1 .sh (([]++b)++[[pI d]]),.list 4 .sh e,pI F]])) h3)/\ True)/\ True)/\ True)/\ True)/\ True)/\ (∃G,aE l 2 1=some [pI G]/\ (aW false 1 8 .nil [] b n λe3 h4=> ∃v,aE t 11 1=some [pI v]/\ ((aW false 1 8 e3 ([]++b) [[pI v]] h4 λk0 h5=> ((aW false 3 56 a.1.1 a.1.2 [[.list 1 .sh (([]++b)++[[pI v]]),.list 4 .sh e,pI G]] h5 λf0 h6=> k (f0,(a.1.2++[[.list 1 .sh (([]++b)++[[pI v]]),.list 4 .sh e,pI G]])) h6)/\ True)/\ True)/\ True)/\ True)/\ True)/\ (aW false 1 8 .nil [] b n λa3 b5=> ∃o,aE t 11 1=some [pI o]/\ (∃H,aE l 2 1=some [pI H]/\ ((aW false 1 8 a3 ([]++b) [[pI o]] b5 λk1 h7=> ((aW false 3 56 a.1.1 a.1.2 [[.list 1 .sh (([]++b)++[[pI o]]),.list 4 .sh e,pI H]] h7 λf1 h8=> k (f1,(a.1.2++[[.list 1 .sh (([]++b)++[[pI o]]),.list 4 .sh e,pI H]])) h8)/\ True)/\ True)/\ True)/\ True)/\ ((aW false 1 8 a3 ([]++b) [[pI o]] b5 λk2 h9=> ∃I,aE l 2 1=some [pI I]/\ ((aW false 3 56 a.1.1 a.1.2 [[.list 1 .sh (([]++b)++[[pI o]]),.list 4 .sh e,pI I]] h9 λf2 i0=> k (f2,(a.1.2++[[.list 1 .sh (([]++b)++[[pI o]]),.list 4 .sh e,pI I]])) i0)/\ True)/\ True)/\ True)/\ True)/\ True) (λr A=> nP x λe0 f7=> ∃b8,ay A e0 (f7+1) 1=some [pI b8]/\ ab (decide (((List.length r.2:Nat):Int)>b8)) (K (.list 3 r.1 r.2) A) (z ((r.1,r.2),false,(wrap .i64 (a.2.2+1))) A))) (z ((a.1.1,a.1.2),false,(wrap .i64 (a.2.2+1))) n)))) ((f.1.1,f.1.2),true,0) b7) (λm B=> ab (p == 2) (ab m.2 (0<=f.2/\∃(a6:List PV),(j)[toNat f.2]?=some a6/\ ∃i8 J i9 L M,aE a6 0 3=some [.list 1 i8 J,.list 4 i9 L,pI M]/\ aW false 3 56 m.1.1 m.1.2 [[.list 1 .sh J,.list 4 .sh L,pI M]] B λf3 i1=> y ((f3,(m.1.2++[[.list 1 .sh J,.list 4 .sh L,pI M]])),(wrap .i64 (f.2+1))) i1) (y ((m.1.1,m.1.2),(wrap .i64 (f.2+1))) B)) (y ((m.1.1,m.1.2),(wrap .i64 (f.2+1))) B))) (K (.list 3 f.1.1 f.1.2) b7)) ((.nil,[]),0) u0)):aa prog 235 [.agg [pI p,pB T,pS U,.list 6 d7 V,.list 6 d8 W,pB X,.list 7 Y w],pI Z,.list 3 d9 j,.list 12 a0 q,pA x] u0 K:= VC [5,1000026] [(5,⟨[(12,.one (.list 3)),(13,.one (.raw (.int .i64)))],[]⟩),(10,⟨[(11,.one (.list 3)),(14,.one (.raw (.int .i64)))],[]⟩),(16,⟨[(11,.one (.list 3)),(15,.one (.raw (.int .i64)))],[]⟩),(20,⟨[(11,.one (.list 3)),(16,.one (.raw .bool)),(17,.one (.raw (.int .i64)))],[]⟩)] [(22,⟨[],[]⟩),(27,⟨[(11,.one (.list 3))],[]⟩),(29,⟨[(11,.one (.list 3)),(16,.one (.raw .bool))],[]⟩)] [] [] [] [] func235 h
theorem ng.c{a:Option Addr}{b f:Int}(h: ao (α:=Unit) (λy T d=> nP a λp z=> ∃R o S,ay d p z 1=some [pV R o S]/\ ab (decide ((((o:Nat):Int):Int)<=b)) (nP a λq A=> ∃g j i,ay d q A 1=some [pV g j i]/\ gP 1 8 3 g j i (.list 1 .nr [[pI 0]]) d λI L J M=> nP a λr B=> stM r B [pV I L J] M λN=> y () N) (nP a λs C=> ∃k l Q,ay d s C 1=some [pV k l Q]/\ bH k λt D=> 0<=b/\b<((l:Nat):Int)/\ stM t (D+toNat b*1) [pI f] d λe=> nP a λu E=> ∃m,ay e u (E+2) 1=some [pB m]/\ ab m (nP a λv F=> stM v (F+2) [pB true] e λO=> K (.aA []) O) (nP a λw G=> ∃n,ay e w (G+1) 1=some [pI n]/\ nP a λx H=> stM x (H+2) [pB (decide (f>n))] e λP=> K (.aA []) P))) () u0):aa prog 236 [pA a,pI b,pI f] u0 K:= VC [] [(0,⟨[],[]⟩)] [] [] [] [] [8,9,16,17,19,21,24,25] func236 h
theorem CS.c{o:Fl}{b:Lq}(h: ao (α:=Int) (λp a e=> ab (decide (a<(b.length:Int))) (0<=a/\∃(d:List PV),(b)[toNat a]?=some d/\ ∃g i j k l r m,aE d 0 6=some [pI g,pS i,pI j,pS k,pI l,.list 3 r m]/\ aa prog 262 [.agg [pI g,pS i,pI j,pS k,pI l,.list 3 .sh m]] e λq f=> ∃n,q=(pB n)/\ ab (!n) (K (pB false) f) (p (wrap .i64 (a+1)) f)) (K (pB true) e)) (0) u0):aa prog 242 [.list 6 o b] u0 K:= VC [4] [(2,⟨[(7,.one (.raw (.int .i64)))],[]⟩)] [] [] [] [] [] func242 h
theorem Gp.c{a d:ByteArray}{b e:Int}(h: ab (!aK a ⟨#[]⟩) (aa prog 186 [pS a] u0 λm f=> ∃j,m=(pB j)/\ ab j (aa prog 263 [.agg [pI b,pS d,pI e]] f λn k=> ∃g,n=(pB g)/\ K (pB g) k) (K (pB false) f)) (aa prog 264 [.agg [pI b,pS d,pI e]] u0 λo l=> ∃i,o=(pB i)/\ K (pB i) l)):aa prog 243 [.agg [pS a,pI b,pS d,pI e]] u0 K:= VC [1] [] [] [] [] [] [] func243 h
theorem Gl.c{a i k d f:Int}{g j b e:ByteArray}(h: ab (decide (a<0)) (K (pB false) u0) (ab (decide (a>3)) (K (pB false) u0) (aa prog 243 [.agg [pS g,pI i,pS j,pI k]] u0 λv l=> ∃o,v=(pB o)/\ ab (!o) (K (pB false) l) (ab (a == 0) (aa prog 246 [.agg [pS b,pI d,pS e,pI f]] l λw t=> ∃p,w=(pB p)/\ K (pB p) t) (aa prog 243 [.agg [pS b,pI d,pS e,pI f]] l λx m=> ∃q,x=(pB q)/\ ab q (aa prog 265 [.agg [pS g,pI i,pS j,pI k]] m λy n=> ∃r,y=(pB r)/\ ab (!r) (aa prog 265 [.agg [pS b,pI d,pS e,pI f]] n λz u=> ∃s,z=(pB s)/\ K (pB (!s)) u) (K (pB false) n)) (K (pB false) m)))))):aa prog 244 [.agg [pI a,pS g,pI i,pS j,pI k,pS b,pI d,pS e,pI f]] u0 K:= VC [1] [] [] [] [] [] [] func244 h
theorem CT.c{a:Int}(h: ab (a == 8) (K (pB true) u0) (ab (a == 9) (K (pB true) u0) (K (pB (a == 10)) u0))):aa prog 245 [pI a] u0 K:= VC [] [] [] [] [] [] [] func245 h
theorem CU.c{a d:ByteArray}{b e:Int}(h: ab (aK a ⟨#[]⟩) (aa prog 263 [.agg [pI b,pS d,pI e]] u0 λi g=> ∃f,i=(pB f)/\ K (pB f) g) (K (pB false) u0)):aa prog 246 [.agg [pS a,pI b,pS d,pI e]] u0 K:= VC [1] [] [] [] [] [] [] func246 h
theorem lb.c{d:Option Addr}{i:ByteArray}(h: nP d λo q=> ∃s l,ay u0 o q 1=some [.list 1 s l]/\ ao (α:=Int×Int) (λj a e=> ab (decide (a.1<a.2)) ((2:Int)≠0/\ nP d λp r=> ∃t m,ay e p r 1=some [.list 1 t m]/\ 0<=(wrap .i64 (a.1+(wrap .i64 (tdiv (wrap .i64 (a.2-a.1)) 2))))/\∃(k:List PV),(m)[toNat (wrap .i64 (a.1+(wrap .i64 (tdiv (wrap .i64 (a.2-a.1)) 2))))]?=some k/\ ∃n,aE k 0 1=some [pS n]/\ (∀b,pv prog (method (prog.types.size+Made.depth) 292 b "Compare")=some (341,b))/\ aa prog 341 [pS n,pS i] e λb f=> ∃g,b=(pI g)/\ ab (g == 0) (K (.aA [pI (wrap .i64 (a.1+(wrap .i64 (tdiv (wrap .i64 (a.2-a.1)) 2)))),pB true]) f) (ab (decide (g<0)) (j ((wrap .i64 ((wrap .i64 (a.1+(wrap .i64 (tdiv (wrap .i64 (a.2-a.1)) 2))))+1)),a.2) f) (j (a.1,(wrap .i64 (a.1+(wrap .i64 (tdiv (wrap .i64 (a.2-a.1)) 2))))) f))) (K (.aA [pI a.1,pB false]) e)) (0,(l.length:Int)) u0):aa prog 247 [pA d,pS i] u0 K:= VC [] [(2,⟨[(6,.one (.raw (.int .i64))),(7,.one (.raw (.int .i64)))],[]⟩)] [] [] [] [] [] func247 h
theorem mg.c{a:Option Addr}(h: nP a λg m=> ∃f,ay u0 g (m+1) 1=some [pB f]/\ ab f (nP a λi n=> ∃x b,ay u0 i n 1=some [.list 1 x b]/\ nP a λj o=> ∃e d,ay u0 j o 1=some [.list 1 e d]/\ (0:Int)<=0/\0<=(wrap .i64 ((b.length:Int)+1))/\(wrap .i64 ((b.length:Int)+1))<(4611686018427387904:Int)/\toNat (wrap .i64 ((b.length:Int)+1))*16<=140737488355328/\ ∀(Cg:Nat),u0 Cg=none-> gP 1 16 292 (some ⟨Cg,0,none⟩) (toNat 0) (toNat (wrap .i64 ((b.length:Int)+1))) (.list 1 e d) (Mem.set u0 Cg (some (.cells 292 (List.flatten (List.replicate (toNat (wrap .i64 ((b.length:Int)+1))) [pS ⟨#[]⟩]))))) λr t s u=> nP a λk p=> stM k p [pV r t s] u λv=> nP a λl q=> stM l (q+1) [pB false] v λw=> K (.aA []) w) (K (.aA []) u0)):aa prog 248 [pA a] u0 K:= VC [] [] [] [] [] [] [] func248 h
theorem kB.c{a:Option Addr}(h: ab (Option.isNone a) (cg u0 343 [.list 1 .nil [],pB false] λi m=> K (pP i 0) m) (nP a λf k=> stM f (k+1) [pB true] u0 λb=> nP a λj l=> ∃e d,ay b j l 1=some [.list 1 e d]/\ cg b 343 [.list 1 e d,pB true] λg n=> K (pP g 0) n)):aa prog 249 [pA a] u0 K:= VC [] [] [] [] [] [] [] func249 h
theorem vY.c{a:Option Addr}{b:ByteArray}(h: nP a λk n=> ∃i,ay u0 k n 1=some [pA i]/\ aa prog 210 [pA i,pS b] u0 λv d=> ∃j,v=(pB j)/\ ab j (nP a λl o=> ∃e g f,ay d l (o+1) 1=some [pV e g f]/\ gP 1 16 9 e g f (.list 1 .nr [[pS b]]) d λq s r t=> nP a λm p=> stM m (p+1) [pV q s r] t λu=> K (.aA []) u) (K (.aA []) d)):aa prog 250 [pA a,pS b] u0 K:= VC [] [] [] [] [] [] [14,17] func250 h
theorem r_.c{f:Option Addr}{m:Fl}{g:Lq}(h: ao (α:=Int) (λd a b=> ab (decide (a<(g.length:Int))) (0<=a/\∃(j:List PV),(g)[toNat a]?=some j/\ ∃i e q r s u t,aE j 0 6=some [pI i,pS e,pI q,pS r,pI s,.list 3 u t]/\ ab (i == 8) (d (wrap .i64 (a+1)) b) (ab (aK e ⟨#[]⟩) (d (wrap .i64 (a+1)) b) (ab (i == 1) (aa prog 250 [pA f,pS e] b λo n=>
 o=(.aA [])/\ d (wrap .i64 (a+1)) n) (aa prog 213 [pA f,pS e] b λp k=> ∃l,p=(pB l)/\ ab (!l) (K (pB false) k) (d (wrap .i64 (a+1)) k))))) (K (pB true) b)) (0) u0):aa prog 251 [pA f,.list 6 m g] u0 K:= VC [6] [(2,⟨[(9,.one (.raw (.int .i64)))],[]⟩)] [] [] [] [] [] func251 h
theorem kA.c{a:Option Addr}{b:ByteArray}(h: ab (Option.isNone a) (K (.aA [pI 0,pB false]) u0) (aa prog 247 [pA a,pS b] u0 λg f=> ∃d e,g=(.aA [pI d,pB e])/\ K (.aA [pI d,pB e]) f)):aa prog 252 [pA a,pS b] u0 K:= VC [] [] [] [] [] [] [] func252 h
theorem Gi.c{b f d g e:Int}{j k:ByteArray}(h: bZ (α:=Bool) (λl=> ab (f == 2) (l (g == 2) u0) (l false u0)) (λi a=> ab (b == 1) (K (pB ((f == g)&&(aK j k&&((d == e)&&true)))) a) (ab (b == 2) (K (pB (!((f == g)&&(aK j k&&((d == e)&&true))))) a) (ab (b == 3) (ab i (K (pB (decide (d<e))) a) (K (pB false) a)) (ab (b == 4) (ab i (K (pB (decide (d<=e))) a) (K (pB false) a)) (ab (b == 5) (ab i (K (pB (decide (d>e))) a) (K (pB false) a)) (ab (b == 6) (ab i (K (pB (decide (d>=e))) a) (K (pB false) a)) (ab (b == 7) (K (pB (f == g)) a) (K (pB false) a))))))))):aa prog 257 [pI b,.agg [pI f,pS j,pI d],.agg [pI g,pS k,pI e]] u0 K:= VC [4,5] [] [(2,⟨[(7,.one (.raw .bool))],[]⟩)] [] [] [] [] func257 h
theorem ug.c{i:Fl}{b:Lq}{e:Int}(h: ao (α:=Int) (λj a d=> ab (decide (a<(b.length:Int))) (0<=a/\∃(f:List PV),(b)[toNat a]?=some f/\ ∃g,aE f 2 1=some [pI g]/\ ab (g == e) (K (pB true) d) (j (wrap .i64 (a+1)) d)) (K (pB false) d)) (0) u0):aa prog 260 [.list 3 i b,pI e] u0 K:= VC [] [(2,⟨[(5,.one (.raw (.int .i64)))],[]⟩)] [] [] [] [] [] func260 h
theorem ui.c{e n p q s t v M:Int}{f a b g:Bool}{i o r u:ByteArray}{k m L x:Fl}{j l J w:Lq}(h: bZ (α:=Unit) (λd=> ab (e != 1) (ab (e != 2) (K (.aA [.list 4 .nil [],pB false]) u0) (ab f (ab (!g) (K (.aA [.list 4 .nil [],pB false]) u0) (ab (!(a == b)) (K (.aA [.list 4 .nil [],pB false]) u0) (d () u0))) (ab (!(a == b)) (K (.aA [.list 4 .nil [],pB false]) u0) (d () u0)))) (ab f (ab (!g) (K (.aA [.list 4 .nil [],pB false]) u0) (ab (!(a == b)) (K (.aA [.list 4 .nil [],pB false]) u0) (d () u0))) (ab (!(a == b)) (K (.aA [.list 4 .nil [],pB false]) u0) (d () u0)))) (λS N=> aa prog 266 [.agg [pI 1,pS i,pI 0,pS ⟨#[]⟩,pI 0,.list 3 .sh []],.agg [pI n,pS o,pI p],.list 4 x w] N λP y=> ∃B A C,P=(.aA [.list 4 B A,pB C])/\ ab (!C) (K (.aA [.list 4 .nil [],pB false]) y) (aa prog 267 [.list 6 k j,.agg [pI q,pS r,pI s],.list 4 B A] y λQ z=> ∃E D F,Q=(.aA [.list 4 E D,pB F])/\ ab (!F) (K (.aA [.list 4 .nil [],pB false]) z) (aa prog 267 [.list 6 m l,.agg [pI t,pS u,pI v],.list 4 E D] z λR O=> ∃H G I,R=(.aA [.list 4 H G,pB I])/\ K (.aA [.list 4 H G,pB I]) O)))):aa prog 261 [.agg [pI e,pB f,pS i,.list 6 k j,.list 6 m l,pB a,.list 7 L J],.agg [pI n,pS o,pI p,pI q,pS r,pI s,pI t,pS u,pI v,pB b,pB g,pI M],.list 4 x w] u0 K:= VC [3,4] [] [(3,⟨[],[]⟩)] [] [] [] [] func261 h
theorem Gk.c{b e g:Int}{d f:ByteArray}{w:Fl}{a:Lq}(h: ab (b == 8) (ab (!aK d ⟨#[]⟩) (K (pB false) u0) (aa prog 263 [.agg [pI e,pS f,pI g]] u0 λA j=> ∃o,A=(pB o)/\ ab (!o) (K (pB false) j) (ab (decide ((a.length:Int)<1)) (K (pB false) j) (ab (decide ((a.length:Int)>8)) (K (pB false) j) (ao (α:=Int) (λx i l=> ab (decide (i<(a.length:Int))) (0<=i/\∃(k:List PV),(a)[toNat i]?=some k/\ ∃p q r,aE k 0 3=some [pI p,pS q,pI r]/\ aa prog 264 [.agg [pI p,pS q,pI r]] l λB m=> ∃s,B=(pB s)/\ ab (!s) (K (pB false) m) (x (wrap .i64 (i+1)) m)) (K (pB true) l)) (0) j))))) (ab (decide (b<1)) (K (pB false) u0) (ab (decide (b>7)) (K (pB false) u0) (ab (decide ((a.length:Int)>0)) (K (pB false) u0) (ab (!aK d ⟨#[]⟩) (aa prog 186 [pS d] u0 λC n=> ∃t,C=(pB t)/\ ab t (aa prog 263 [.agg [pI e,pS f,pI g]] n λD y=> ∃u,D=(pB u)/\ K (pB u) y) (K (pB false) n)) (aa prog 264 [.agg [pI e,pS f,pI g]] u0 λE z=> ∃v,E=(pB v)/\ K (pB v) z)))))):aa prog 262 [.agg [pI b,pS d,pI e,pS f,pI g,.list 3 w a]] u0 K:= VC [1,4] [(5,⟨[(32,.one (.raw (.int .i64)))],[]⟩)] [] [] [] [] [] func262 h
theorem Gm.c{a d:Int}{b:ByteArray}(h: K (pB ((a == 0)&&(aK b ⟨#[]⟩&&((d == 0)&&true)))) u0):aa prog 263 [.agg [pI a,pS b,pI d]] u0 K:= VC [1] [] [] [] [] [] [] func263 h
theorem xU.c{a d:Int}{b:ByteArray}(h: ab (a != 1) (aa prog 122 [.agg [pI a,pS b,pI d]] u0 λg f=> ∃e,g=(pB e)/\ K (pB e) f) (K (pB false) u0)):aa prog 264 [.agg [pI a,pS b,pI d]] u0 K:= VC [1] [] [] [] [] [] [] func264 h
theorem Gj.c{a d:ByteArray}{b e:Int}(h: ab (aK a ⟨#[]⟩) (K (pB (b == 3)) u0) (K (pB false) u0)):aa prog 265 [.agg [pS a,pI b,pS d,pI e]] u0 K:= VC [1] [] [] [] [] [] [] func265 h
theorem wg.c{a p r f i:Int}{e q g:ByteArray}{E d:Fl}{k b:Lq}(h: ab (a == 8) (ao (α:=Int) (λF j m=> ab (decide (j<(k.length:Int))) (0<=j/\∃(s:List PV),(k)[toNat j]?=some s/\ ∃u v w,aE s 0 3=some [pI u,pS v,pI w]/\ ab ((u == f)&&(aK v g&&((w == i)&&true))) (K (.aA [.list 4 d b,pB true]) m) (F (wrap .i64 (j+1)) m)) (K (.aA [.list 4 .nil [],pB false]) m)) (0) u0) (ab (decide (a<1)) (K (.aA [.list 4 .nil [],pB false]) u0) (ab (decide (a>7)) (K (.aA [.list 4 .nil [],pB false]) u0) (bZ (α:=Int×ByteArray×Int) (λo=> ab (!aK e ⟨#[]⟩) (aa prog 268 [.list 4 d b,pS e] u0 λI n=> ∃x y z A,I=(.aA [.agg [pI x,pS y,pI z],pB A])/\ ab (!A) (ab (a != 1) (K (.aA [.list 4 .nil [],pB false]) n) (aa prog 269 [.list 4 d b,pS e,.agg [pI f,pS g,pI i]] n λJ H=> ∃C B,J=(.list 4 C B)/\ K (.aA [.list 4 C B,pB true]) H)) (o (x,y,z) n)) (o (p,q,r) u0)) (λl G=> aa prog 270 [pI a,.agg [pI f,pS g,pI i],.agg [pI l.1,pS l.2.1,pI l.2.2]] G λL t=> ∃D,L=(pB D)/\ ab (!D) (K (.aA [.list 4 .nil [],pB false]) t) (K (.aA [.list 4 d b,pB true]) t)))))):aa prog 266 [.agg [pI a,pS e,pI p,pS q,pI r,.list 3 E k],.agg [pI f,pS g,pI i],.list 4 d b] u0 K:= VC [3,4,9,10] [(3,⟨[(8,.one (.raw (.int .i64)))],[]⟩)] [(18,⟨[(9,.box [.raw (.int .i64),.raw .str,.raw (.int .i64)])],[]⟩)] [] [] [] [] func266 h
theorem se.c{v i:Fl}{b g:Lq}{d f:Int}{e:ByteArray}(h: ao (α:=(Fl×Lq)×Int) (λw a k=> ab (decide (a.2<(b.length:Int))) (0<=a.2/\∃(j:List PV),(b)[toNat a.2]?=some j/\ ∃m n o p q y r,aE j 0 6=some [pI m,pS n,pI o,pS p,pI q,.list 3 y r]/\ aa prog 266 [.agg [pI m,pS n,pI o,pS p,pI q,.list 3 .sh r],.agg [pI d,pS e,pI f],.list 4 a.1.1 a.1.2] k λx l=> ∃t s u,x=(.aA [.list 4 t s,pB u])/\ ab (!u) (K (.aA [.list 4 .nil [],pB false]) l) (w ((t,s),(wrap .i64 (a.2+1))) l)) (K (.aA [.list 4 a.1.1 a.1.2,pB true]) k)) ((i,g),0) u0):aa prog 267 [.list 6 v b,.agg [pI d,pS e,pI f],.list 4 i g] u0 K:= VC [4] [(2,⟨[(2,.one (.list 4)),(8,.one (.raw (.int .i64)))],[]⟩)] [] [] [] [] [] func267 h
theorem wh.c{m:Fl}{b:Lq}{e:ByteArray}(h: ao (α:=Int) (λn a d=> ab (decide (a<(b.length:Int))) (0<=a/\∃(f:List PV),(b)[toNat a]?=some f/\ ∃i,aE f 0 1=some [pS i]/\ ab (aK i e) (0<=a/\∃(g:List PV),(b)[toNat a]?=some g/\ ∃j k l,aE g 1 3=some [pI j,pS k,pI l]/\ K (.aA [.agg [pI j,pS k,pI l],pB true]) d) (n (wrap .i64 (a+1)) d)) (K (.aA [.agg [pI 0,pS ⟨#[]⟩,pI 0],pB false]) d)) (0) u0):aa prog 268 [.list 4 m b,pS e] u0 K:= VC [4] [(2,⟨[(6,.one (.raw (.int .i64)))],[(4,3)]⟩)] [] [] [] [] [] func268 h
theorem uf.c{g:Fl}{a:Lq}{b e:ByteArray}{d f:Int}(h: (aW true 4 48 .nil [] a u0 λk m=> aW false 4 48 k ([]++a) [[pS b,pI d,pS e,pI f]] m λi n=> K (.list 4 i (([]++a)++[[pS b,pI d,pS e,pI f]])) n)/\ (aW true 4 48 .nil [] a u0 λl o=> aW false 4 48 l ([]++a) [[pS b,pI d,pS e,pI f]] o λj p=> K (.list 4 j (([]++a)++[[pS b,pI d,pS e,pI f]])) p)):aa prog 269 [.list 4 g a,pS b,.agg [pI d,pS e,pI f]] u0 K:= VC [5] [] [] [] [] [] [] func269 h
theorem sf.c{b f d g e:Int}{j k:ByteArray}(h: bZ (α:=Bool) (λl=> ab (f == 2) (l (g == 2) u0) (l false u0)) (λi a=> ab (b == 1) (K (pB ((f == g)&&(aK j k&&((d == e)&&true)))) a) (ab (b == 2) (K (pB (!((f == g)&&(aK j k&&((d == e)&&true))))) a) (ab (b == 3) (ab i (K (pB (decide (d<e))) a) (K (pB false) a)) (ab (b == 4) (ab i (K (pB (decide (d<=e))) a) (K (pB false) a)) (ab (b == 5) (ab i (K (pB (decide (d>e))) a) (K (pB false) a)) (ab (b == 6) (ab i (K (pB (decide (d>=e))) a) (K (pB false) a)) (ab (b == 7) (K (pB (f == g)) a) (K (pB false) a))))))))):aa prog 270 [pI b,.agg [pI f,pS j,pI d],.agg [pI g,pS k,pI e]] u0 K:= VC [4,5] [] [(2,⟨[(7,.one (.raw .bool))],[]⟩)] [] [] [] [] func270 h
theorem wx.c{d f g j:Int}{e i:ByteArray}(h: aa prog 287 [pI d,pI g] u0 λo k=> ∃a,o=(pI a)/\ ab (a != 0) (K (pI a) k) (aa prog 288 [pS e,pS i] k λp l=> ∃b,p=(pI b)/\ ab (b != 0) (K (pI b) l) (aa prog 287 [pI f,pI j] l λq n=> ∃m,q=(pI m)/\ K (pI m) n))):aa prog 286 [.agg [pI d,pS e,pI f],.agg [pI g,pS i,pI j]] u0 K:= VC [2,3] [] [] [] [] [] [] func286 h
theorem wv.c{b d:Int}(h: aa prog 289 [pI b] u0 λi g=> ∃f,i=(pB f)/\ aa prog 289 [pI d] g λj a=> ∃e,j=(pB e)/\ ab f (ab e (K (pI 0) a) (K (pI (-1)) a)) (ab e (K (pI 1) a) (ab (decide (b<d)) (K (pI (-1)) a) (ab (decide (b>d)) (K (pI 1) a) (K (pI 0) a))))):aa prog 287 [pI b,pI d] u0 K:= VC [] [] [] [] [] [] [] func287 h
theorem rk.c{b d:ByteArray}(h: aa prog 290 [pS b] u0 λi g=> ∃f,i=(pB f)/\ aa prog 290 [pS d] g λj a=> ∃e,j=(pB e)/\ ab f (ab e (K (pI 0) a) (K (pI (-1)) a)) (ab e (K (pI 1) a) (ab (Op.bytesLess (ByteArray.toList b) (ByteArray.toList d)) (K (pI (-1)) a) (ab (!(Op.bytesLess (ByteArray.toList b) (ByteArray.toList d)||aK b d)) (K (pI 1) a) (K (pI 0) a))))):aa prog 288 [pS b,pS d] u0 K:= VC [] [] [] [] [] [] [] func288 h
theorem zu.c{a:Int}(h: K (pB (a != a)) u0):aa prog 289 [pI a] u0 K:= VC [] [] [] [] [] [] [] func289 h
theorem ux.c{a:ByteArray}(h: K (pB (!aK a a)) u0):aa prog 290 [pS a] u0 K:= VC [] [] [] [] [] [] [] func290 h
theorem sb.c{a b:ByteArray}(h: ab (Op.bytesLess (ByteArray.toList a) (ByteArray.toList b)) (K (pI (-1)) u0) (ab (!(Op.bytesLess (ByteArray.toList a) (ByteArray.toList b)||aK a b)) (K (pI 1) u0) (K (pI 0) u0))):aa prog 296 [pS a,pS b] u0 K:= VC [] [] [] [] [] [] [] func296 h
theorem rb.c{b i e k:Fl}{a g d j:Lq}(h: aa prog 298 [.list 1 b a,.list 1 e d] u0 λm l=> ∃f,m=(pI f)/\ K (pI f) l):aa prog 297 [.agg [.list 1 b a,.list 4 i g],.agg [.list 1 e d,.list 4 k j]] u0 K:= VC [2,3] [] [] [] [] [] [] func297 h
theorem Jb.c{p q:Fl}{b d:Lq}(h: bZ (α:=Unit) (λf=> ao (α:=Int) (λr a e=> ab (decide (a<(b.length:Int))) (ab (decide (a<(d.length:Int))) (0<=a/\∃(g:List PV),(b)[toNat a]?=some g/\ ∃l,aE g 0 1=some [pI l]/\ 0<=a/\∃(i:List PV),(d)[toNat a]?=some i/\ ∃m,aE i 0 1=some [pI m]/\ ab (l != m) (0<=a/\∃(j:List PV),(b)[toNat a]?=some j/\ ∃n,aE j 0 1=some [pI n]/\ 0<=a/\∃(k:List PV),(d)[toNat a]?=some k/\ ∃o,aE k 0 1=some [pI o]/\ K (pI (wrap .i64 (n-o))) e) (r (wrap .i64 (a+1)) e)) (f () e)) (f () e)) (0) u0) (λt s=> K (pI (wrap .i64 ((b.length:Int)-(d.length:Int)))) s)):aa prog 298 [.list 1 p b,.list 1 q d] u0 K:= VC [] [(2,⟨[(5,.one (.raw (.int .i64)))],[]⟩)] [(6,⟨[],[]⟩)] [] [] [] [] func298 h
theorem pR.c{d f g j k m a p r s u v x b:Int}{e i l q t w:ByteArray}{n o y z:Bool}(h: ab (decide (a<b)) (K (pI (-1)) u0) (ab (decide (a>b)) (K (pI 1) u0) (K (pI 0) u0))):aa prog 299 [.agg [pI d,pS e,pI f,pI g,pS i,pI j,pI k,pS l,pI m,pB n,pB o,pI a],.agg [pI p,pS q,pI r,pI s,pS t,pI u,pI v,pS w,pI x,pB y,pB z,pI b]] u0 K:= VC [2,3] [] [] [] [] [] [] func299 h
theorem pT.c{a b:Int}(h: K (pI (wrap .i64 (a-b))) u0):aa prog 306 [pI a,pI b] u0 K:= VC [] [] [] [] [] [] [] func306 h
theorem fW.c{b f d n:ByteArray}{i k m p r t:Fl}{g j l o q s:Lq}(h: (∀a,pv prog (method (prog.types.size+Made.depth) 118 a "Compare")=some (296,a))/\ aa prog 296 [pS b,pS d] u0 λa u=> ∃e,a=(pI e)/\ K (pI e) u):aa prog 307 [.agg [pS b,pS f,.list 7 i g,.list 19 k j,.list 1 m l],.agg [pS d,pS n,.list 7 p o,.list 19 r q,.list 1 t s]] u0 K:= VC [2,3] [] [] [] [] [] [] func307 h
theorem oZ.c{a b:Int}(h: ab (decide (a<b)) (K (pI (-1)) u0) (ab (decide (a>b)) (K (pI 1) u0) (K (pI 0) u0))):aa prog 316 [pI a,pI b] u0 K:= VC [] [] [] [] [] [] [] func316 h
theorem dX.c{b e f i:Int}{d g:ByteArray}{k l:Option Addr}(h: (∀a,pv prog (method (prog.types.size+Made.depth) 37 a "Compare")=some (286,a))/\ aa prog 286 [.agg [pI b,pS d,pI e],.agg [pI f,pS g,pI i]] u0 λa m=> ∃j,a=(pI j)/\ K (pI j) m):aa prog 327 [.agg [pI b,pS d,pI e,pA k],.agg [pI f,pS g,pI i,pA l]] u0 K:= VC [2,3] [] [] [] [] [] [] func327 h
theorem fN.c{b f i j l m o r d s u v x y A D:Int}{g k n t w z:ByteArray}{p q B C:Bool}(h: (∀a,pv prog (method (prog.types.size+Made.depth) 191 a "Compare")=some (316,a))/\ aa prog 316 [pI b,pI d] u0 λa E=> ∃e,a=(pI e)/\ K (pI e) E):aa prog 331 [.agg [pI b,pI f,pS g,pI i,pI j,pS k,pI l,pI m,pS n,pI o,pB p,pB q,pI r],.agg [pI d,pI s,pS t,pI u,pI v,pS w,pI x,pI y,pS z,pI A,pB B,pB C,pI D]] u0 K:= VC [2,3] [] [] [] [] [] [] func331 h
theorem eU.c{b f q d s C:Int}{g n t z:Bool}{i u:ByteArray}{k m p w y B:Fl}{j l o v x A:Lq}{r D:Option Addr}(h: (∀a,pv prog (method (prog.types.size+Made.depth) 191 a "Compare")=some (316,a))/\ aa prog 316 [pI b,pI d] u0 λa E=> ∃e,a=(pI e)/\ K (pI e) E):aa prog 335 [.agg [pI b,pI f,pB g,pS i,.list 6 k j,.list 6 m l,pB n,.list 7 p o,pI q,pA r],.agg [pI d,pI s,pB t,pS u,.list 6 w v,.list 6 y x,pB z,.list 7 B A,pI C,pA D]] u0 K:= VC [2,3] [] [] [] [] [] [] func335 h
theorem ra.c{a b:ByteArray}(h: ab (Op.bytesLess (ByteArray.toList a) (ByteArray.toList b)) (K (pI (-1)) u0) (ab (!(Op.bytesLess (ByteArray.toList a) (ByteArray.toList b)||aK a b)) (K (pI 1) u0) (K (pI 0) u0))):aa prog 341 [pS a,pS b] u0 K:= VC [] [] [] [] [] [] [] func341 h
theorem oY.c{e g i k l n a q s t v w y b:Int}{f j m r u x:ByteArray}{o p z A:Bool}(h: aa prog 316 [pI a,pI b] u0 λC B=> ∃d,C=(pI d)/\ K (pI d) B):aa prog 342 [.agg [pI e,pS f,pI g,pI i,pS j,pI k,pI l,pS m,pI n,pB o,pB p,pI a],.agg [pI q,pS r,pI s,pI t,pS u,pI v,pI w,pS x,pI y,pB z,pB A,pI b]] u0 K:= VC [2,3] [] [] [] [] [] [] func342 h
end Go.Proofs.YthaeiehophlooaaGreat
namespace Go.aO
open Go.RowKit
def Reads(P:Program)(w:World)(n:Nat)(t:TypeId)(cs:List Value):Prop:=∃(H:Type) (enc:TypeId×Value->H) (x:DataW H×List MemPlace),DataW.trod enc P w 0 (λ_=>true) true n t cs=some x
section
variable {P:Program} {w:World} {n:Nat} {t:TypeId} {cs:List Value}
theorem Reads.int{k:IntKind}(ht:P.underlying t=some (.int k))(h:Reads P w n t cs):∃i,cs=[.int k i]/\(Lit.int k i).wf=true:=by
 obtain⟨H,enc,x,h⟩:=h;cases n with
 |zero=>simp[DataW.trod]at h
 |succ n=>
  unfold DataW.trod at h;simp only[ht]at h;split at h<;>simp_all
theorem Reads.bool(ht:P.underlying t=some .bool)(h:Reads P w n t cs):∃b,cs=[.bool b]:=by
 obtain⟨H,enc,x,h⟩:=h;cases n with
 |zero=>simp[DataW.trod]at h
 |succ n=>
  unfold DataW.trod at h;simp only[ht]at h;split at h<;>simp_all
theorem Reads.string(ht:P.underlying t=some .string)(h:Reads P w n t cs):∃s:ByteArray,cs=[.string s]/\s.size<=maxLen:=by
 obtain⟨H,enc,x,h⟩:=h;cases n with
 |zero=>simp[DataW.trod]at h
 |succ n=>
  unfold DataW.trod at h;simp only[ht]at h;split at h<;>simp_all
theorem Reads.struct{fs:Array Field}(ht:P.underlying t=some (.struct fs))(h:Reads P w n t cs):∃m,n=m+1/\cs.length=P.cellsOf t/\∀(i:Nat) (f:Field),fs[i]?=some f->Reads P w m f.type ((cs.drop f.offset).take (P.cellsOf f.type)):=by
 obtain⟨H,enc,x,h⟩:=h;obtain⟨xs,m,rfl,_,hl,hx,hf⟩:=DataW.trod_struct ht h;refine⟨m,rfl,hl,λi f hi=>?_⟩;have:=hf i f hi;have bG:i<xs.length:=by rw[hx];exact(Array.getElem?_eq_some_iff.1 hi).1
 rw[getElem?_eq_getElem bG]at this;exact⟨H,enc,_,this⟩
theorem vK{a:Addr}{sz:Nat}{cs:List Value}(h:w.cells? 0 a sz=some cs)(hz:sz≠0):a.spot=none/\rd w.heap a.block a.off sz=some cs:=by
 obtain⟨_,hl,hc⟩:=World.cells?_some h;have h0:=hc 0 (by omega);have e0:a.add 0=a:=by simp[Addr.add]
 rw[e0,getElem?_eq_getElem (by omega)]at h0;unfold World.cell? at h0;split at h0
 ·rename_i c T f hb;split at h0
  ·cases h0
  ·rename_i hs;have ac7:a.spot=none:=by simpa using hs
   refine⟨ac7,?_⟩;have Sb:∀i,i<sz->c[a.off+i]?=cs[i]?:=by
    intro i hi;have:=hc i hi;have e:a.add i=⟨a.block,a.off+i,none⟩:=by
     unfold Addr.add;split
     ·rename_i h;subst h;obtain⟨_,_,_⟩:=a;simp_all
     ·rfl
    rw[e]at this;simpa[World.cell?,hb]using this
   have hle:a.off+sz<=c.size:=by
    have:=Sb (sz-1) (by omega);rw[getElem?_eq_getElem (by omega)]at this;have:=(Array.getElem?_eq_some_iff.1 this).1;omega
   rw[Aw hb hle];congr 1;refine List.ext_getElem? λi=>?_;by_cases hi:i<sz
   ·rw[List.getElem?_take_of_lt hi,List.getElem?_drop,<- Sb i hi];simp
   ·rw[List.getElem?_eq_none (by simp;omega),List.getElem?_eq_none (by omega)]
 ·cases h0
theorem NR{H:IU}{b o m k:Nat}{xs ys:List Value}(h1:rd H b o m=some xs)(h2:rd H b (o+m) k=some ys):rd H b o (m+k)=some (xs++ys):=by
 obtain⟨c,T,f,a1,a2,rfl⟩:=uX h1;obtain⟨c',T',f',b1,b2,rfl⟩:=uX h2;rw[a1]at b1;simp only[Option.some.injEq,Obj.cells.injEq]at b1;obtain⟨rfl,rfl,rfl⟩:=b1;rw[Aw a1 (by omega)];congr 1;rw[List.take_add,List.drop_drop]
theorem LN{H:IU}{b o sz:Nat}(f:Nat->List Value):∀m,m≠0->(∀i,i<m->rd H b (o+i*sz) sz=some (f i))->rd H b o (m*sz)=some ((range m).map f).flatten
 |0,h,_=>absurd rfl h
 |1,_,h=>by have:=h 0 (by omega);simpa using this
 |m+2,_,h=>by
  have ih:=LN f (m+1) (by omega) (λi hi=>h i (by omega));have:=NR ih (h (m+1) (by omega));rw[List.range_succ,List.map_append,List.flatten_append,show(m+2)*sz=(m+1)*sz+sz by rw[Nat.succ_mul]];simpa using this
theorem Reads.slice{e:TypeId}(ht:P.underlying t=some (.slice e))(hz:P.cellsOf e≠0)(h:Reads P w n t cs):∃m a len cap yP,n=m+1/\cs=[.slice a len cap]/\len<=maxLen/\SlR w.heap a len cap (P.cellsOf e) yP/\(∀x∈yP,Reads P w m e x)/\(cap=0\/iq a):=by
 obtain⟨H,enc,x,h⟩:=h;have hn:∃m,n=m+1:=by
  cases n with
  |zero=>simp[DataW.trod]at h
  |succ n=>exact⟨n,rfl⟩
 obtain⟨m0,rfl⟩:=hn;rcases DataW.trod_slice ht h with⟨rfl,_⟩|⟨a,len,cap,elems,rest,m,yB,rfl,rfl,hb,hl,hm,hlen,PI,DQ,hns⟩
 ·exact⟨m0,none,0,0,[],rfl,rfl,Nat.zero_le _,SlR.nil _ _,by simp,.inl rfl⟩
 ·have yB:m0=m:=by omega
  subst yB;have hex:∀i,i<len->∃c',(w.cells? 0 (a.add (i*P.cellsOf e)) (P.cellsOf e))=some c'/\Reads P w m0 e c':=by
   intro i hi;have h1:=PI i hi;rw[getElem?_eq_getElem (by omega)]at h1;obtain⟨c',h2,h3⟩:=Option.bind_eq_some_iff.1 h1;exact⟨c',h2,H,enc,_,h3⟩
  have ahy:∃f:Nat->List Value,∀i,i<len->w.cells? 0 (a.add (i*P.cellsOf e)) (P.cellsOf e)=some (f i)/\Reads P w m0 e (f i):=by
   classical
   refine⟨λi=>if hi:i<len then Classical.choose (hex i hi)else[],λi hi=>?_⟩;simp only[dif_pos hi];exact Classical.choose_spec (hex i hi)
  obtain⟨f,hf⟩:=ahy;refine⟨m0,some a,len,cap,(range len).map f,rfl,rfl,Nat.le_trans hl hm,⟨by simp,hl,?_,λhn=>?_⟩,?_,?_⟩
  ·intro x hx;obtain⟨i,hi,rfl⟩:=mem_map.1 hx;exact(World.cells?_some (hf i (List.mem_range.1 hi)).1).2.1
  ·have h0:=vK (hf 0 (by omega)).1 hz;have e0:a.add (0*P.cellsOf e)=a:=by simp[Addr.add]
   rw[e0]at h0;obtain⟨hs,_⟩:=h0;obtain⟨b,o,s⟩:=a;simp only at hs;subst hs;refine⟨b,o,rfl,LN f len hn λi hi=>?_⟩;have:=(vK (hf i hi).1 hz).2;have e:(⟨b,o,none⟩:Addr).add (i*P.cellsOf e)=⟨b,o+i*P.cellsOf e,none⟩:=by
    unfold Addr.add;split
    ·rename_i h;simp[h]
    ·rfl
   rw[e]at this;exact this
  ·intro x hx;obtain⟨i,hi,rfl⟩:=mem_map.1 hx;exact(hf i (List.mem_range.1 hi)).2
  ·by_cases Ig:cap=0
   ·exact .inl Ig
   ·right;have hs:a.spot=none:=by
     by_cases ZA:len=0
     ·have h1:=(DQ rfl).2 0 (by omega);have ajR:=(DQ rfl).1;rw[getElem?_eq_getElem (by omega)]at h1;obtain⟨c',h2,_⟩:=Option.bind_eq_some_iff.1 h1;have e0:a.add ((len+0)*P.cellsOf e)=a:=by simp[Addr.add,ZA]
      rw[e0]at h2;exact(vK h2 hz).1
     ·have h0:=vK (hf 0 (by omega)).1 hz;have e0:a.add (0*P.cellsOf e)=a:=by simp[Addr.add]
      rw[e0]at h0;exact h0.1
    intro x hx;cases hx;exact hs
theorem Hs{T:Type}{Z:Fz}{pv:T->List PV}{Q:T->Prop}:∀{yP:List (List Value)},(∀x∈yP,∃s,bq Z (pv s) x/\Q s)->∃l:List T,l.length=yP.length/\bq Z (l.map pv).flatten yP.flatten/\(∀s∈l,Q s)/\∀(i:Nat) s x,l[i]?=some s->yP[i]?=some x->bq Z (pv s) x
 |[],_=>⟨[],rfl,bq.nil Z,by simp,by simp⟩
 |x::yP,h=>by
  obtain⟨s,hr,hs⟩:=h x (by simp)
  obtain⟨l,hl,Cd,hq,hi⟩:=Hs (yP:=yP) λy hy=>h y (by simp[hy]);refine⟨s::l,by simp[hl],by simpa using hr.append Cd,by simpa using⟨hs,hq⟩,λi s' x' a b=>?_⟩;cases i with
  |zero=>simp only[List.getElem?_cons_zero,Option.some.injEq]at a b;subst a;subst b;exact hr
  |succ i=>simp only[List.getElem?_cons_succ]at a b;exact hi i s' x' a b
theorem Reads.Dy{T:Type}{pv:T->List PV}{Q:T->Prop}{e:TypeId}{sz:Nat}(ht:P.underlying t=some (.slice e))(hc:P.cellsOf e=sz)(hz:sz≠0)(he:∀m cs,m<n->Reads P w m e cs->∃s,bq (jF w) (pv s) cs/\Q s)(h:Reads P w n t cs):
  ∃l:List T,bq (jF w) [.list sz .sh (l.map pv)] cs/\(∀s∈l,Q s)/\l.length<=maxLen:=by
 obtain⟨m,a,len,cap,yP,rfl,rfl,h0,h2,h3,DQ⟩:=h.slice ht (by rw[hc];exact hz);rw[hc]at h2;obtain⟨l,hl,Cd,hq,hi⟩:=Hs λx hx=>he m x (by omega) (h3 x hx);have sF:l.length=len:=by rw[hl,h2.len]
 refine⟨l,bq.cons rfl ?_ (bq.nil _),hq,by omega⟩;have dS:∀r∈l.map pv,r.length=sz:=by
  intro r hr;obtain⟨s,hs,rfl⟩:=mem_map.1 hr;obtain⟨i,PG⟩:=List.mem_iff_getElem?.1 hs;have bG:i<yP.length:=by rw[<- hl];exact(List.getElem?_eq_some_iff.1 PG).1
  have:=hi i s yP[i] PG (getElem?_eq_getElem bG);rw[<- this.1];exact h2.each _ (getElem_mem bG)
 by_cases hn:len=0
 ·have:l=[]:=List.eq_nil_of_length_eq_zero (by omega);subst this;exact .list sz .sh _ a len cap 0 0 [] (λ_ _=>undef) (by simp[hn]) h2.cap DQ (by simp) (λh=>absurd hn h) (λi j hi=>by omega) (by simp) (by simp) trivial
 ·obtain⟨b,o,rfl,hr⟩:=h2.read hn;obtain⟨A,T',f',hA,hle,hv⟩:=uX hr;have mu:yP.flatten.length=len*sz:=by rw[Is h2.each,h2.len]
  have:=qn (Z:=jF w) (sz:=sz) (fl:=.sh) (rows:=l.map pv) (vs:=yP.flatten) (b:=b) (o:=o) (c:=cap) (C:=A.toList) dS Cd (WH hA) (λk hk=>by
   rw[hv]at hk |-
   rw[List.getElem?_take,if_pos (by rw[hv]at mu;omega),List.getElem?_drop]) (by simp[sF,h2.cap]) trivial
  rw[List.length_map,sF]at this;exact this
theorem Reads.JV{k:IntKind}(ht:P.underlying t=some (.int k))(h:Reads P w n t cs):∃i,bq (jF w) [.raw (.int k i)] cs/\(Lit.int k i).wf=true:=by
 obtain⟨i,rfl,hw⟩:=h.int ht;exact⟨i,bq.cons rfl (.raw _ rfl rfl) (bq.nil _),hw⟩
theorem Reads.pbool(ht:P.underlying t=some .bool)(h:Reads P w n t cs):∃i,bq (jF w) [pB i] cs:=by
 obtain⟨i,rfl⟩:=h.bool ht;exact⟨i,bq.cons rfl (.raw _ rfl rfl) (bq.nil _)⟩
theorem Reads.NV(ht:P.underlying t=some .string)(h:Reads P w n t cs):∃i:ByteArray,bq (jF w) [pS i] cs/\i.size<=maxLen:=by
 obtain⟨i,rfl,hw⟩:=h.string ht;exact⟨i,bq.cons rfl (.raw _ rfl rfl) (bq.nil _),hw⟩
theorem gO{m:Nat}{fs:Array Field}(hf:∀(i:Nat) (f:Field),fs[i]?=some f->Reads P w m f.type ((cs.drop f.offset).take (P.cellsOf f.type)))(i off:Nat){ty k:Nat}(h3:P.cellsOf ty=k){f:Field}(hi:fs[i]?=some f)(h1:f.type=ty)(h2:f.offset=off):Reads P w m ty ((cs.drop off).take k):=by
 subst h1 h2 h3;exact hf i f hi
section
variable {H:Type} {enc:TypeId×Value->H} {r:Reach} {base:Nat} {v:Value} {d:DataW H} {p:List MemPlace}
theorem Reads.of(h:DataW.Trod enc P w 0 (λ_=>true) true t v d p):∃n,Reads P w n t v.cells.toList:=let ⟨n,hn⟩:=h;⟨n,H,enc,_,hn⟩
theorem UQ{T:Type}{pv:T->List PV}{Q:T->Prop}{fs:Array Field}(ht:P.underlying t=some (.struct fs))(he:∀m cs,Reads P w m t cs->∃s,bq (jF w) (pv s) cs/\Q s)(hv:Value.okWide P w r base t v)(h:DataW.Trod enc P w 0 (λ_=>true) true t v d p):
  ∃s,bS (jF w) (.agg (pv s)) v/\Q s:=by
 simp only[Value.okWide,ht]at hv;obtain⟨cs,rfl,_,_⟩:=hv;obtain⟨n,hn⟩:=Reads.of h;obtain⟨s,e,hq⟩:=he n _ hn;exact⟨s,e.qe,hq⟩
theorem QR{T:Type}{pv:T->List PV}{Q:T->Prop}{e:TypeId}{sz:Nat}(ht:P.underlying t=some (.slice e))(hc:P.cellsOf e=sz)(hz:sz≠0)(he:∀m cs,Reads P w m e cs->∃s,bq (jF w) (pv s) cs/\Q s)(hv:Value.okWide P w r base t v)(h:DataW.Trod enc P w 0 (λ_=>true) true t v d p):
  ∃l:List T,bS (jF w) (.list sz .sh (l.map pv)) v/\(∀s∈l,Q s)/\l.length<=maxLen:=by
 obtain⟨a,len,cap,rfl⟩:=WideShapes.okWide_slice ht hv;obtain⟨n,hn⟩:=Reads.of h;obtain⟨l,h2,h3,h4⟩:=hn.Dy ht hc hz (λm cs _ hr=>he m cs hr);obtain⟨v,vs,e,_,hr,_⟩:=h2.inv;simp only[Value.cells,List.cons.injEq]at e;refine⟨l,?_,h3,h4⟩;rw[e.1];exact hr
end
end
theorem fE(a:ByteArray):aK a a=true:=bD.2 rfl
theorem jN{a b:ByteArray}:aK a b=false↔a≠b:=by
 cases h:aK a b with
 |true=>simp[bD.1 h]
 |false=>
  simp only[true_iff];intro e;rw[bD.2 e]at h;cases h
structure Sym where
 k:Int
 t:ByteArray
 n:Int
@[reducible] def Sym.pv(s:Sym):List PV:=[pI s.k,pS s.t,pI s.n]
structure Bind where
 v:ByteArray
 s:Sym
@[reducible] def Bind.pv(b:Bind):List PV:=[pS b.v,pI b.s.k,pS b.s.t,pI b.s.n]
structure Test where
 rel:Int
 var:ByteArray
 sym:Sym
 list:List Sym
@[reducible] def Test.pv(t:Test):List PV:=[pI t.rel,pS t.var,pI t.sym.k,pS t.sym.t,pI t.sym.n,.list 3 .sh (t.list.map Sym.pv)]
structure aj where
 id:Sym
 attr:Sym
 value:Sym
 acc:Bool
 goal:Bool
 tag:Int
@[reducible] def aj.pv(e:aj):List PV:=[pI e.id.k,pS e.id.t,pI e.id.n,pI e.attr.k,pS e.attr.t,pI e.attr.n,pI e.value.k,pS e.value.t,pI e.value.n,pB e.acc,pB e.goal,pI e.tag]
inductive ae where
 |mk (kind:Int) (goal:Bool) (id:ByteArray) (attr value:List Test) (acc:Bool) (conds:List ae)
namespace ae
def kind:ae->Int| .mk k _ _ _ _ _ _=>k
def goal:ae->Bool| .mk _ g _ _ _ _ _=>g
def id:ae->ByteArray| .mk _ _ i _ _ _ _=>i
def attr:ae->List Test| .mk _ _ _ a _ _ _=>a
def value:ae->List Test| .mk _ _ _ _ v _ _=>v
def acc:ae->Bool| .mk _ _ _ _ _ a _=>a
def conds:ae->List ae| .mk _ _ _ _ _ _ c=>c
end ae
mutual
def ae.pv:ae->List PV
 | .mk k g i a v ac cs=>[pI k,pB g,pS i,.list 6 .sh (a.map Test.pv),.list 6 .sh (v.map Test.pv),pB ac,.list 7 .sh (ae.pvs cs)]
def ae.pvs:List ae->Lq
 |[]=>[]
 |c::cs=>ae.pv c::ae.pvs cs
end
theorem ae.QG:∀cs:List ae,ae.pvs cs=cs.map ae.pv
 |[]=>rfl
 |c::cs=>by simp[ae.pvs,ae.QG cs]
theorem ae.cG(c:ae):c.pv=[pI c.kind,pB c.goal,pS c.id,.list 6 .sh (c.attr.map Test.pv),.list 6 .sh (c.value.map Test.pv),pB c.acc,.list 7 .sh (c.conds.map ae.pv)]:=by
 cases c;simp only[ae.pv,ae.QG];rfl
theorem ae.ind{Q:ae->Prop}(h:∀c:ae,(∀d∈c.conds,Q d)->Q c):∀c,Q c:=by
 intro c
 exact ae.rec (motive_1:=Q) (motive_2:=λl=>∀d∈l,Q d) (λk g i a v ac cs ih=>h _ ih) (λd hd=>by cases hd) (λc cs h1 h2 d hd=>by
  rcases mem_cons.1 hd with rfl|hd
  ·exact h1
  ·exact h2 d hd) c
structure Atom where
 var:ByteArray
 sym:Sym
@[reducible] def Atom.pv(a:Atom):List PV:=[pS a.var,pI a.sym.k,pS a.sym.t,pI a.sym.n]
structure Term where
 op:Int
 a:Atom
 b:Atom
@[reducible] def Term.pv(t:Term):List PV:=[pI t.op,pS t.a.var,pI t.a.sym.k,pS t.a.sym.t,pI t.a.sym.n,pS t.b.var,pI t.b.sym.k,pS t.b.sym.t,pI t.b.sym.n]
structure cN where
 id:ByteArray
 attr:Atom
 value:Term
 pE:Int
 other:Atom
@[reducible] def cN.pv(a:cN):List PV:=[pS a.id,pS a.attr.var,pI a.attr.sym.k,pS a.attr.sym.t,pI a.attr.sym.n,pI a.value.op,pS a.value.a.var,pI a.value.a.sym.k,pS a.value.a.sym.t,pI a.value.a.sym.n,pS a.value.b.var,pI a.value.b.sym.k,pS a.value.b.sym.t,pI a.value.b.sym.n,pI a.pE,pS a.other.var,pI a.other.sym.k,pS a.other.sym.t,pI a.other.sym.n]
structure Prod where
 name:ByteArray
 conds:List ae
 bh:List cN
@[reducible] def Prod.pv(p:Prod):List PV:=[pS p.name,.list 7 .sh (p.conds.map ae.pv),.list 19 .sh (p.bh.map cN.pv)]
@[reducible] def eZ(x y:Sym):Bool:=(x.k == y.k)&&(aK x.t y.t&&((x.n == y.n)&&true))
theorem dm{x y:Sym}:eZ x y=true↔x=y:=by
 obtain⟨a,b,c⟩:=x;obtain⟨a',b',c'⟩:=y;simp[eZ,bD]
theorem Aa(x:Sym):eZ x x=true:=dm.2 rfl
theorem BJ{α:Type}{p:α->Bool}{l:List α}{k:Nat}(hk:k<l.length)(h:(l.take k).any p=false):(l.take (k+1)).any p=p l[k]:=by
 rw[take_add_one,List.any_append,h,getElem?_eq_getElem hk];simp
theorem Lg{α:Type}{p:α->Bool}{l:List α}{k:Nat}(hk:k<l.length)(h:p l[k]=true):l.any p=true:=List.any_eq_true.2 ⟨_,getElem_mem hk,h⟩
theorem FZ{α:Type}{p:α->Bool}{l:List α}{k:Nat}(hk:k<l.length)(h:(l.take k).all p=true):(l.take (k+1)).all p=p l[k]:=by
 rw[take_add_one,List.all_append,h,getElem?_eq_getElem hk];simp
theorem F_{α:Type}{p:α->Bool}{l:List α}{k:Nat}(hk:k<l.length)(h:p l[k]=false):l.all p=false:=by
 cases ha:l.all p with
 |false=>rfl
 |true=>rw[all_eq_true.1 ha _ (getElem_mem hk)]at h;cases h
theorem eV{α β:Type}{f:α->β}{l:List α}{k:Nat}(hk:k<l.length):(l.take (k+1)).map f=(l.take k).map f++[f l[k]]:=by
 rw[take_add_one,getElem?_eq_getElem hk,List.map_append];rfl
theorem Un{α:Type}{l:List α}{k:Nat}(h:¬k<l.length):l.take k=l:=List.take_of_length_le (by omega)
theorem ao.each{γ:Type}{body:(Int->γ->Prop)->Int->γ->Prop}{u:γ}{n:Nat}(hn:n<9223372036854775808)(I:Nat->γ->Prop)(h0:I 0 u)
  (fT:∀(k:Nat) (u:γ) (next:Int->γ->Prop),k<n->I k u->(∀u',I (k+1) u'->next (wrap .i64 ((k:Int)+1)) u')->body next (k:Int) u) (fL:∀(u:γ) (next:Int->γ->Prop),I n u->body next (n:Int) u):ao body 0 u:=by
 refine ao.up n hn I h0 λk u next hk hI aw=>?_
 by_cases bG:k<n
 ·exact fT k u next bG hI (aw bG)
 ·have:k=n:=by omega
  subst this;exact fL u next hI
theorem ao.dG{β γ:Type}{body:(β×Int->γ->Prop)->β×Int->γ->Prop}{x:β}{u:γ}{n:Nat}(hn:n<9223372036854775808)(I:Nat->β->γ->Prop)(h0:I 0 x u)
  (fT:∀(k:Nat) (x:β) (u:γ) (next:β×Int->γ->Prop),k<n->I k x u->(∀x' u',I (k+1) x' u'->next (x',wrap .i64 ((k:Int)+1)) u')->body next (x,(k:Int)) u) (fL:∀(x:β) (u:γ) (next:β×Int->γ->Prop),I n x u->body next (x,(n:Int)) u):ao body (x,0) u:=by
 refine ao.up2 n hn I h0 λk x u next hk hI aw=>?_
 by_cases bG:k<n
 ·exact fT k x u next bG hI (aw bG)
 ·have:k=n:=by omega
  subst this;exact fL x u next hI
theorem ao.from{γ:Type}{body:(Int->γ->Prop)->Int->γ->Prop}{u:γ}{n s:Nat}(hs:s<=n)(hn:n<9223372036854775808)(I:Nat->γ->Prop)(h0:I s u)
  (fT:∀(k:Nat) (u:γ) (next:Int->γ->Prop),s<=k->k<n->I k u->(∀u',I (k+1) u'->next (wrap .i64 ((k:Int)+1)) u')->body next (k:Int) u) (fL:∀(u:γ) (next:Int->γ->Prop),I n u->body next (n:Int) u):ao body (s:Int) u:=by
 refine⟨λm x u=>∃k:Nat,x=(k:Int)/\s<=k/\k<=n/\I k u/\m=n-k,⟨n-s,s,rfl,Nat.le_refl _,hs,h0,rfl⟩,?_⟩;rintro _ _ u ⟨k,rfl,hsk,hk,hI,rfl⟩;by_cases bG:k<n
 ·refine fT k u _ hsk bG hI λu' dK=>?_;rw[aC (by omega) (by omega)];exact⟨n-(k+1),by omega,k+1,by omega,by omega,by omega,dK,rfl⟩
 ·have:k=n:=by omega
  subst this;exact fL u _ hI
@[reducible] def bL(t:ByteArray):List UInt8:=t.data.toList
theorem xO(t:ByteArray):(bL t).length=t.size:=rfl
theorem FX{t:ByteArray}{k:Nat}(hk:k<t.size):t[toNat (k:Int)]?=some (bL t)[k]:=by
 rw[Int.toNat_natCast,getElem?_pos t k hk];rfl
end Go.aO
namespace Go.Proofs.YthaeiehophlooaaGreat
open Go.Proofs.Tryz Go.aO Go.RowKit
@[reducible] def p8(c:UInt8):PV:=.raw (.int .u8 ((c.toNat:Nat):Int))
def fF(c:UInt8):Bool:=decide ((c.toNat:Int)>=97)&&decide ((c.toNat:Int)<=122)
def FN(c:UInt8):Bool:=decide ((c.toNat:Int)>=48)&&decide ((c.toNat:Int)<=57)
def FB(c:UInt8):Bool:=decide ((c.toNat:Int)>=65)&&decide ((c.toNat:Int)<=90)
def kI(c:UInt8):Bool:=fF c||(FN c||(((c.toNat:Int) == 45)||((c.toNat:Int) == 95)))
def mC(l:List UInt8):Bool:=decide (1<=l.length)&&(decide (l.length<=32)&&((match l with|c::_=>fF c|[]=>false)&&l.all kI))
def eP(t:ByteArray):Bool:=mC (bL t)
def fP(s:Sym):Bool:=
 bif s.k == 1 then(match bL s.t with|[c]=>FB c&&(decide (s.n>=1)&&decide (s.n<=1048576))|_=>false)else
 bif s.k == 2 then aK s.t ⟨#[]⟩&&(decide (s.n>= -2147483647)&&decide (s.n<=2147483647))else
 bif s.k == 3 then(s.n == 0)&&eP s.t else false
theorem S_(c:UInt8):Pure prog 229 [p8 c] (pB (fF c)):=by
 refine av.of (IX.c ?_);refine ab.mk (λh=>?_) (λh=>?_)<;>simp_all [fF,wk,bV]<;>omega
theorem aaC(c:UInt8):Pure prog 230 [p8 c] (pB (FN c)):=by
 refine av.of (IZ.c ?_);refine ab.mk (λh=>?_) (λh=>?_)<;>simp_all [FN,wk,bV]<;>omega
theorem aaz(c:UInt8):Pure prog 185 [p8 c] (pB (FB c)):=by
 refine av.of (IY.c ?_);refine ab.mk (λh=>?_) (λh=>?_)<;>simp_all [FB,wk,bV]<;>omega
theorem aes(c:UInt8):Pure prog 138 [p8 c] (pB (kI c)):=by
 refine av.of (uv.c ?_)
 repeat' (refine ab.mk (λh=>?_) (λh=>?_))
 all_goals (simp only[wk,bV,PV.raw.injEq,Value.bool.injEq,kI,fF,FN];grind)
theorem Jq{c:UInt8}{l:List UInt8}(h1:(c::l).length<=32)(h2:fF c=true):mC (c::l)=l.all kI:=by
 simp only[mC,length_cons]at*
 have hp:kI c=true:=by simp[kI,h2]
 simp[h2,hp];omega
theorem Ej(t:ByteArray):Pure prog 186 [pS t] (pB (eP t)):=by
 refine av.of (Lr.c ?_);have hlen:=xO t;unfold eP;generalize hL:bL t=L at hlen;refine ab.mk (λh=>?_) (λh=>ab.mk (λh2=>?_) (λh2=>?_))
 ·have:L=[]:=List.eq_nil_of_length_eq_zero (by simp at h;omega);subst this;rfl
 ·have:¬L.length<=32:=by simp at h2;omega
  simp[mC,this,wk,bV]
 ·have h1:1<=t.size:=by simp at h;omega
  have h3:L.length<=32:=by simp at h2;omega
  have pj:∀k (hk:k<L.length),t[toNat (k:Int)]?=some L[k]:=λk hk=>by subst hL;exact FX (by omega)
  obtain⟨c,l,rfl⟩:∃c l,L=c::l:=by
   cases L with
   |nil=>simp at hlen;omega
   |cons c l=>exact⟨c,l,rfl⟩
  refine⟨by omega,c,pj 0 (by simp),(S_ c).call ⟨_,rfl,ab.mk (λh4=>?_) (λh4=>?_)⟩⟩
  ·have h4:fF c=false:=by simpa using h4
   simp[mC,h4,wk,bV]
  ·have h4:fF c=true:=by simpa using h4
   rw[Jq h3 h4];refine ao.from (s:=1) (n:=t.size) h1 (by omega) (λk u=>(l.take (k-1)).all kI=true) (by simp) ?_ ?_
   ·intro k u next jY hk hg aw
    have cj:k<(c::l).length:=by omega
    have GB:k-1<l.length:=by simp at cj;omega
    have hck:(c::l)[k]=l[k-1]:=by
     cases k with
     |zero=>omega
     |succ k=>simp
    have hx:=pj k cj;rw[hck]at hx
    have go:kI l[k-1]=true->∀u',next (wrap .i64 ((k:Int)+1)) u':=λhp u'=>aw u' (by
     have:k+1-1=k-1+1:=by omega
     rw[this,FZ GB hg];exact hp)
    have stop:kI l[k-1]=false->wk (pB false)=pB (l.all kI):=λhp=>by rw[F_ GB hp];rfl
    refine ab.t (by simpa using hk) ⟨by omega,_,hx,(S_ _).call ⟨_,rfl,ab.mk (λa1=>?_) (λa1=>go ?_ _)⟩⟩
    ·refine⟨by omega,_,hx,(aaC _).call ⟨_,rfl,ab.mk (λa2=>?_) (λa2=>go ?_ _)⟩⟩
     ·refine⟨by omega,_,hx,ab.mk (λa3=>⟨by omega,_,hx,ab.mk (λa4=>stop ?_) (λa4=>go ?_ _)⟩) (λa3=>go ?_ _)⟩<;>simp_all [kI]
     ·simp_all [kI]
    ·simp_all [kI]
   ·intro u next hg
    refine ab.f (by simp) ?_;have:t.size-1=l.length:=by simp at hlen;omega
    rw[this,List.take_length]at hg;rw[hg];rfl
theorem qS(t:ByteArray):Pure prog 84 [pS t] (pB (eP t)):=by
 refine av.of (ur.c ?_);have hlen:=xO t;unfold eP;generalize hL:bL t=L at hlen;refine ab.mk (λh=>?_) (λh=>ab.mk (λh2=>?_) (λh2=>?_))
 ·have:L=[]:=List.eq_nil_of_length_eq_zero (by simp at h;omega);subst this;rfl
 ·have:¬L.length<=32:=by simp at h2;omega
  simp[mC,this,wk,bV]
 ·have h1:1<=t.size:=by simp at h;omega
  have h3:L.length<=32:=by simp at h2;omega
  have pj:∀k (hk:k<L.length),t[toNat (k:Int)]?=some L[k]:=λk hk=>by subst hL;exact FX (by omega)
  obtain⟨c,l,rfl⟩:∃c l,L=c::l:=by
   cases L with
   |nil=>simp at hlen;omega
   |cons c l=>exact⟨c,l,rfl⟩
  refine⟨by omega,c,pj 0 (by simp),ab.mk (λh4=>?_) (λh4=>⟨by omega,c,pj 0 (by simp),ab.mk (λh5=>?_) (λh5=>?_)⟩)⟩
  ·have:fF c=false:=by simp at h4;simp[fF];omega
   simp[mC,this,wk,bV]
  ·have:fF c=false:=by simp at h5;simp[fF];omega
   simp[mC,this,wk,bV]
  ·have hs:fF c=true:=by simp at h4 h5;simp[fF];omega
   have hw:mC (c::l)=(c::l).all kI:=by
    simp only[length_cons]at h3;simp[mC,hs];omega
   rw[hw];refine ao.each (n:=t.size) (by omega) (λk u=>((c::l).take k).all kI=true) (by simp) ?_ ?_
   ·intro k u next hk hg aw
    have cj:k<(c::l).length:=by omega
    refine ab.t (by simpa using hk) ⟨by omega,_,pj k cj,(aes _).call ⟨_,rfl,ab.mk (λa1=>?_) (λa1=>aw _ ?_)⟩⟩
    ·rw[F_ cj (by simpa using a1)];rfl
    ·rw[FZ cj hg];simpa using a1
   ·intro u next hg
    refine ab.f (by simp) ?_;rw[<- hlen,List.take_length]at hg;rw[hg];rfl
theorem zE{t:ByteArray}:((((t.size:Nat):Int) == 1)=true↔∃c,bL t=[c]):=by
 have hlen:=xO t;constructor
 ·intro h;have h1:(bL t).length=1:=by simp at h;omega
  exact List.length_eq_one_iff.1 h1
 ·rintro⟨c,hc⟩;rw[hc]at hlen;simp at hlen |-;omega
theorem FQ(s:Sym):Pure prog 122 [.agg s.pv] (pB (fP s)):=by
 refine av.of (I_.c ?_);refine ab.mk (λh=>?_) (λh=>ab.mk (λh2=>?_) (λh2=>ab.mk (λh3=>?_) (λh3=>?_)))
 ·refine ab.mk (λa=>?_) (λa=>?_)
  ·obtain⟨c,hc⟩:=zE.1 a;have pj:s.t[toNat 0]?=some c:=by
    have:=FX (t:=s.t) (k:=0) (by have:=xO s.t;rw[hc]at this;simp at this;omega);simpa[hc]using this
   refine⟨by omega,c,pj,(aaz c).call ⟨_,rfl,ab.mk (λb=>ab.mk (λd=>?_) (λd=>?_)) (λb=>?_)⟩⟩<;>simp_all [fP,wk,bV]<;>omega
  ·have:∀c,bL s.t≠[c]:=λc hc=>by rw[zE.2 ⟨c,hc⟩]at a;cases a
   have hv:fP s=false:=by
    simp only[fP,h,cond_true]
    all_goals (split<;>first|rfl|(rename_i c hc;exact absurd hc (this c)))
   rw[hv];rfl
 ·refine ab.mk (λa=>ab.mk (λb=>?_) (λb=>?_)) (λa=>?_)<;>simp_all [fP,wk,bV]<;>omega
 ·refine ab.mk (λa=>(Ej s.t).call ⟨_,rfl,?_⟩) (λa=>?_)<;>simp_all [fP,wk,bV]<;>omega
 ·simp_all [fP,wk,bV]
theorem xH(s:Sym):Pure prog 144 [.agg s.pv] (pB (fP s)):=by
 refine av.of (sk.c ?_);refine ab.mk (λh=>?_) (λh=>ab.mk (λh2=>?_) (λh2=>ab.mk (λh3=>?_) (λh3=>?_)))
 ·refine ab.mk (λa=>?_) (λa=>?_)
  ·obtain⟨c,hc⟩:=zE.1 a;have pj:s.t[toNat 0]?=some c:=by
    have:=FX (t:=s.t) (k:=0) (by have:=xO s.t;rw[hc]at this;simp at this;omega);simpa[hc]using this
   refine⟨by omega,c,pj,ab.mk (λb=>⟨by omega,c,pj,ab.mk (λb2=>ab.mk (λd=>?_) (λd=>?_)) (λb2=>?_)⟩) (λb=>?_)⟩<;>simp_all [fP,FB,wk,bV]<;>omega
  ·have:∀c,bL s.t≠[c]:=λc hc=>by rw[zE.2 ⟨c,hc⟩]at a;cases a
   have hv:fP s=false:=by
    simp only[fP,h,cond_true]
    all_goals (split<;>first|rfl|(rename_i c hc;exact absurd hc (this c)))
   rw[hv];rfl
 ·refine ab.mk (λa=>ab.mk (λb=>?_) (λb=>?_)) (λa=>?_)<;>simp_all [fP,wk,bV]<;>omega
 ·refine ab.mk (λa=>(qS s.t).call ⟨_,rfl,?_⟩) (λa=>?_)<;>simp_all [fP,wk,bV]<;>omega
 ·simp_all [fP,wk,bV]
def lV(s:Sym):Bool:=(s.k != 1)&&fP s
theorem xI(s:Sym):Pure prog 145 [.agg s.pv] (pB (lV s)):=by
 refine av.of (sm.c ?_);refine(xH s).call ⟨_,rfl,ab.mk (λa=>?_) (λa=>?_)⟩<;>simp_all [lV,wk,bV]
mutual
def aN:ae->Nat
 | .mk _ _ _ _ _ _ cs=>1+ah cs
def ah:List ae->Nat
 |[]=>0
 |c::cs=>aN c+ah cs
end
theorem bN(c:ae):aN c=1+ah c.conds:=by cases c;rfl
theorem kS(a b:List ae):ah (a++b)=ah a+ah b:=by
 induction a with
 |nil=>simp[ah]
 |cons c a ih=>simp only[cons_append,ah,ih];omega
theorem eK{l:List ae}{k:Nat}(hk:k<l.length):ah (l.take (k+1))=ah (l.take k)+(1+ah l[k].conds):=by
 rw[take_add_one,kS,getElem?_eq_getElem hk];simp[ah,bN]
theorem jO(l:List ae)(k:Nat):ah l=ah (l.take k)+ah (l.drop k):=by rw[<- kS,take_append_drop]
theorem et{l:List ae}{c:ae}(h:c∈l):1+ah c.conds<=ah l:=by
 induction l with
 |nil=>cases h
 |cons d l ih=>
  simp only[ah];rcases mem_cons.1 h with rfl|h
  ·rw[bN];omega
  ·have:=ih h;omega
theorem c_(l:List ae):l.length<=ah l:=by
 induction l with
 |nil=>simp
 |cons c l ih=>simp only[length_cons,ah,bN];omega
mutual
def f_:ae->Nat->Nat->List (Nat×Nat×ae)
 | .mk k g i a v ac cs,at_,deep=>(at_,deep,.mk k g i a v ac cs)::cQ cs (at_+1) (deep+1)
def cQ:List ae->Nat->Nat->List (Nat×Nat×ae)
 |[],_,_=>[]
 |c::cs,at_,deep=>f_ c at_ deep++cQ cs (at_+aN c) deep
end
theorem LV(c:ae)(at_ deep:Nat):f_ c at_ deep=(at_,deep,c)::cQ c.conds (at_+1) (deep+1):=by cases c;rfl
theorem qq:∀(a b:List ae) (at_ deep:Nat),cQ (a++b) at_ deep=cQ a at_ deep++cQ b (at_+ah a) deep
 |[],b,at_,deep=>by simp[cQ,ah]
 |c::a,b,at_,deep=>by
  simp only[cons_append,cQ,qq a b,ah,List.append_assoc]
  congr 3;omega
mutual
theorem nG:∀(c:ae) (at_ deep:Nat),(f_ c at_ deep).length=aN c
 | .mk k g i a v ac cs,at_,deep=>by simp only[f_,length_cons,aN,nE cs];omega
theorem nE:∀(l:List ae) (at_ deep:Nat),(cQ l at_ deep).length=ah l
 |[],_,_=>rfl
 |c::cs,at_,deep=>by simp only[cQ,List.length_append,nG c,nE cs,ah]
end
theorem nb{b:Bool}(h:(!b)=true):b=false:=by simpa using h
theorem nt{b:Bool}(h:(!b)=false):b=true:=by simpa using h
theorem Dx{l:List ae}{k:Nat}(hk:k<l.length)(a d:Nat):cQ (l.take (k+1)) a d=cQ (l.take k) a d++((a+ah (l.take k),d,l[k])::cQ l[k].conds (a+ah (l.take k)+1) (d+1)):=by
 rw[take_add_one,qq,getElem?_eq_getElem hk];simp[cQ,LV]
theorem LU{l:List ae}{k:Nat}(hk:k<l.length)(a d:Nat):cQ l a d=cQ (l.take k) a d++((a+ah (l.take k),d,l[k])::cQ l[k].conds (a+ah (l.take k)+1) (d+1))++cQ (l.drop (k+1)) (a+ah (l.take (k+1))) d:=by
 rw[<- Dx hk,<- qq,take_append_drop]
mutual
theorem JU:∀(c:ae) (a d k:Nat) (x:Nat×Nat×ae),(f_ c a d)[k]?=some x->x.1=a+k
 | .mk kk g i at' v ac cs,a,d,k,x,h=>by
   simp only[f_]at h
   cases k with
   |zero=>simp only[List.getElem?_cons_zero,Option.some.injEq]at h;subst h;rfl
   |succ k=>
    simp only[List.getElem?_cons_succ]at h
    have:=th cs (a+1) (d+1) k x h;omega
theorem th:∀(l:List ae) (a d k:Nat) (x:Nat×Nat×ae),(cQ l a d)[k]?=some x->x.1=a+k
 |[],a,d,k,x,h=>by simp[cQ]at h
 |c::cs,a,d,k,x,h=>by
  simp only[cQ]at h
  by_cases hk:k<(f_ c a d).length
  ·rw[List.getElem?_append_left hk]at h;exact JU c a d k x h
  ·rw[List.getElem?_append_right (by omega)]at h
   have:=th cs (a+aN c) d _ x h
   rw[nG]at this hk;omega
end
def oE(t:Test):Prop:=t.list.length<=40/\t.var.size<=100/\t.sym.t.size<=100
mutual
def cU:ae->Prop
 | .mk _ _ i a v _ cs=>i.size<=100/\a.length<=40/\v.length<=40/\(∀t∈a,oE t)/\(∀t∈v,oE t)/\bW cs
def bW:List ae->Prop
 |[]=>True
 |c::cs=>cU c/\bW cs
end
theorem bF(c:ae):cU c↔c.id.size<=100/\c.attr.length<=40/\c.value.length<=40/\(∀t∈c.attr,oE t)/\(∀t∈c.value,oE t)/\bW c.conds:=by cases c;rfl
theorem b_{l:List ae}:bW l↔∀c∈l,cU c:=by
 induction l with
 |nil=>simp[bW]
 |cons c l ih=>simp[bW,ih]
mutual
theorem AV:∀(c:ae) (a d:Nat) (x:Nat×Nat×ae),cU c->x∈f_ c a d->cU x.2.2
 | .mk k g i at' v ac cs,a,d,x,h,hx=>by
   simp only[f_,mem_cons]at hx
   rcases hx with rfl|hx
   ·exact h
   ·exact tC cs _ _ x ((bF _).1 h).2.2.2.2.2 hx
theorem tC:∀(l:List ae) (a d:Nat) (x:Nat×Nat×ae),bW l->x∈cQ l a d->cU x.2.2
 |[],a,d,x,_,hx=>by simp[cQ]at hx
 |c::cs,a,d,x,h,hx=>by
  simp only[cQ,List.mem_append]at hx
  rcases hx with hx|hx
  ·exact AV c a d x h.1 hx
  ·exact tC cs _ d x h.2 hx
end
theorem cS{l:List Test}(h:∀t∈l,oE t):∀t∈l,t.list.length<=1000000:=λt ht=>Nat.le_trans (h t ht).1 (by omega)
def sA(s:Sym):Bool:=(s.k == 0)&&(aK s.t ⟨#[]⟩&&((s.n == 0)&&true))
def oM(a:Atom):Bool:=aK a.var ⟨#[]⟩&&sA a.sym
def iC(a:Atom):Bool:=bif aK a.var ⟨#[]⟩then lV a.sym else eP a.var&&sA a.sym
def df(t:Test):Bool:=
 bif t.rel == 8 then aK t.var ⟨#[]⟩&&(sA t.sym&&(decide (1<=t.list.length)&&(decide (t.list.length<=8)&&t.list.all lV)))
 else decide (1<=t.rel)&&(decide (t.rel<=7)&&(decide (t.list.length=0)&&iC ⟨t.var,t.sym⟩))
def Dc(a:Atom):Bool:=aK a.var ⟨#[]⟩&&(a.sym.k == 3)
def kG(t:Term):Bool:=decide (0<=t.op)&&(decide (t.op<=3)&&(iC t.a&&(bif t.op == 0 then oM t.b else iC t.b&&(!Dc t.a&& !Dc t.b))))
def wY(k:Int):Bool:=(k == 8)||((k == 9)||(k == 10))
def hY(a:cN):Bool:=eP a.id&&(iC a.attr&&(kG a.value&&(decide (1<=a.pE)&&(decide (a.pE<=10)&&(bif wY a.pE then iC a.other else oM a.other)))))
def bn(c:ae)(deep:Int):Int:=
 bif c.kind == 3 then
  (bif c.goal||(!aK c.id ⟨#[]⟩||(decide (0<c.attr.length)||(decide (0<c.value.length)||(c.acc||decide (c.conds.length=0)))))then 9 else bif decide (3<=deep)then 8 else 0)
 else bif (c.kind == 1)||(c.kind == 2)then
  (bif decide (0<c.conds.length)||(!eP c.id||decide (c.attr.length=0))then 9 else
   bif decide (4<c.attr.length)||decide (4<c.value.length)then 7 else
   bif !(c.attr.all df)|| !(c.value.all df)then 9 else 0)
 else 9
def cR:List (Nat×Nat×ae)->Option (Nat×Int)
 |[]=>none
 |(a,d,c)::l=>bif bn c d == 0 then cR l else some (a,bn c d)
theorem fO(a b:List (Nat×Nat×ae)):cR (a++b)=(cR a).or (cR b):=by
 induction a with
 |nil=>rfl
 |cons x a ih=>
  obtain⟨p,d,c⟩:=x;simp only[cons_append,cR];cases bn c d == 0
  ·rfl
  ·exact ih
def gq:Nat->List cN->Option Nat
 |_,[]=>none
 |i,a::l=>bif hY a then gq (i+1) l else some i
theorem Iw{l:List cN}{k i:Nat}(hk:k<l.length)(h:gq i (l.take k)=none):gq i (l.take (k+1))=(bif hY l[k]then none else some (i+k)):=by
 induction l generalizing k i with
 |nil=>simp at hk
 |cons a l ih=>
  cases k with
  |zero=>simp[gq]
  |succ k=>
   simp only[take_succ_cons,gq,getElem_cons_succ]at h |-;cases ha:hY a with
   |false=>rw[ha]at h;cases h
   |true=>
    rw[ha]at h;simp only[cond_true]at h |-;rw[ih (by simpa using hk) h];congr 2;omega
theorem KG{l:List cN}{k i:Nat}(hk:k<l.length)(h:gq i (l.take k)=none)(ha:hY l[k]=false):gq i l=some (i+k):=by
 induction l generalizing k i with
 |nil=>simp at hk
 |cons a l ih=>
  cases k with
  |zero=>simp only[List.getElem_cons_zero]at ha;simp[gq,ha]
  |succ k=>
   simp only[take_succ_cons,gq,getElem_cons_succ]at h ha |-;cases hb:hY a with
   |false=>rw[hb]at h;cases h
   |true=>
    rw[hb]at h;simp only[cond_true]at h |-;rw[ih (by simpa using hk) h ha];congr 1;omega
def jt(p:Prod):Int×Int:=
 match cR (cQ p.conds 0 0)with
 |some (a,e)=>(a,e)
 |none=>match gq 0 p.bh with
  |some i=>(((ah p.conds+i:Nat):Int),9)
  |none=>(-1,0)
def cJ(p:Prod):Int×Int:=
 bif !eP p.name then(-1,2)else
 bif decide (ah p.conds<1)||(decide (16<ah p.conds)||(decide (p.bh.length<1)||decide (16<p.bh.length)))then(-1,7)else jt p
theorem Hd{p:Prod}{a:Nat}{e:Int}(h:cR (cQ p.conds 0 0)=some (a,e)):jt p=((a:Int),e):=by simp only[jt,h]
theorem He{p:Prod}{i:Nat}(h:cR (cQ p.conds 0 0)=none)(h2:gq 0 p.bh=some i):jt p=(((ah p.conds+i:Nat):Int),9):=by simp only[jt,h,h2]
theorem Dn{p:Prod}(h:cR (cQ p.conds 0 0)=none)(h2:gq 0 p.bh=none):jt p=(-1,0):=by simp only[jt,h,h2]
theorem nR{l:List (Nat×Nat×ae)}{a:Nat}{e:Int}(h:cR l=some (a,e)):e≠0:=by
 induction l with
 |nil=>cases h
 |cons x l ih=>
  obtain⟨p,d,c⟩:=x;simp only[cR]at h;cases hc:bn c d == 0 with
  |true=>rw[hc]at h;exact ih h
  |false=>
   rw[hc]at h;simp only[cond_false,Option.some.injEq,Prod.mk.injEq]at h;rw[<- h.2];simpa using hc
theorem Iu{l:List (Nat×Nat×ae)}{k:Nat}{x:Nat×Nat×ae}(hx:l[k]?=some x)(h:cR (l.take k)=none):cR (l.take (k+1))=(bif bn x.2.2 x.2.1 == 0 then none else some (x.1,bn x.2.2 x.2.1)):=by
 rw[take_add_one,fO,h,hx];obtain⟨a,d,c⟩:=x;simp[cR]
theorem Iv{l:List (Nat×Nat×ae)}{k:Nat}{r:Nat×Int}(h:cR (l.take k)=some r):cR l=some r:=by
 have:=fO (l.take k) (l.drop k);rw[take_append_drop,h]at this;exact this
def hasB(K:List ByteArray)(v:ByteArray):Bool:=K.any λx=>aK x v
theorem qI{K:List ByteArray}{v:ByteArray}:hasB K v=true↔v∈K:=by
 unfold hasB;rw[List.any_eq_true];constructor
 ·rintro⟨x,hx,e⟩;rw[bD]at e;exact e▸hx
 ·intro h;exact⟨v,h,bD.2 rfl⟩
def pF(K:List ByteArray)(v:ByteArray):List ByteArray:=bif hasB K v then[]else[v]
theorem vf(K:List ByteArray)(v:ByteArray):(pF K v).length<=1:=by unfold pF;cases hasB K v<;>simp
def rT(K:List ByteArray)(t:Test):Option (List ByteArray):=
 bif (t.rel == 8)||aK t.var ⟨#[]⟩then some K else bif t.rel == 1 then some (K++pF K t.var)else bif hasB K t.var then some K else none
def iI:List ByteArray->List Test->Option (List ByteArray)
 |K,[]=>some K
 |K,t::ts=>match rT K t with
  |some K'=>iI K' ts
  |none=>none
theorem qz(K:List ByteArray)(a b:List Test):iI K (a++b)=(iI K a).bind λK'=>iI K' b:=by
 induction a generalizing K with
 |nil=>rfl
 |cons t a ih=>
  simp only[cons_append,iI];cases rT K t with
  |none=>rfl
  |some K'=>exact ih K'
theorem w_{K K':List ByteArray}{ts:List Test}{i:Nat}(hi:i<ts.length)(h:iI K (ts.take i)=some K'):iI K (ts.take (i+1))=rT K' ts[i]:=by
 rw[take_add_one,qz,h,getElem?_eq_getElem hi];simp only[Option.bind_some,Option.toList_some,iI];cases rT K' ts[i]<;>rfl
theorem DH{K K':List ByteArray}{ts:List Test}{i:Nat}(hi:i<ts.length)(h:iI K (ts.take i)=some K')(hn:rT K' ts[i]=none):iI K ts=none:=by
 have:ts=ts.take (i+1)++ts.drop (i+1):=(take_append_drop _ _).symm;rw[this,qz,w_ hi h,hn];rfl
def pG(K:List ByteArray)(c:ae):Option (List ByteArray):=
 (λK0=>bif hasB K0 c.id then(iI K0 c.attr).bind λK1=>iI K1 c.value else none) (bif c.goal then K++pF K c.id else K)
mutual
def vm:ae->Nat->List ByteArray->Except Nat (List ByteArray)
 | .mk k g i a v ac cs,n,K=>
   bif k == 3 then(match dY cs (n+1) K with
    | .error e=>.error e
    | .ok _=>.ok K)
   else match pG K (.mk k g i a v ac cs)with
    |none=>.error n
    |some K'=>.ok (bif k == 1 then K' else K)
def dY:List ae->Nat->List ByteArray->Except Nat (List ByteArray)
 |[],_,K=>.ok K
 |c::cs,n,K=>match vm c n K with
  | .error e=>.error e
  | .ok K'=>dY cs (n+aN c) K'
end
theorem Ba(c:ae)(n:Nat)(K:List ByteArray):vm c n K=(bif c.kind == 3 then(match dY c.conds (n+1) K with
   | .error e=>.error e
   | .ok _=>.ok K)
  else match pG K c with
   |none=>.error n
   |some K'=>.ok (bif c.kind == 1 then K' else K)):=by cases c;simp only[vm];rfl
theorem vl(a b:List ae)(n:Nat)(K:List ByteArray):dY (a++b) n K=match dY a n K with
  | .error e=>.error e
  | .ok K'=>dY b (n+ah a) K':=by
 induction a generalizing n K with
 |nil=>simp[dY,ah]
 |cons c a ih=>
  simp only[cons_append,dY,ah];cases vm c n K with
  |error e=>rfl
  |ok K'=>simp only[ih];rw[Nat.add_assoc]
theorem tE{l:List ae}{n i:Nat}{K K':List ByteArray}(hi:i<l.length)(h:dY (l.take i) n K=.ok K'):dY (l.take (i+1)) n K=vm l[i] (n+ah (l.take i)) K':=by
 rw[take_add_one,vl,h,getElem?_eq_getElem hi];simp only[Option.toList_some,dY];cases vm l[i] (n+ah (l.take i)) K'<;>rfl
theorem lN{l:List ae}{n i e:Nat}{K K':List ByteArray}(hi:i<l.length)(h:dY (l.take i) n K=.ok K')(hn:vm l[i] (n+ah (l.take i)) K'=.error e):dY l n K=.error e:=by
 have:l=l.take (i+1)++l.drop (i+1):=(take_append_drop _ _).symm;rw[this,vl,tE hi h,hn]
def UT(t:Test):Prop:=t.rel=8->aK t.var ⟨#[]⟩=true
mutual
def Pw:ae->Prop
 | .mk k _ _ a v _ cs=>(k=3\/((k=1\/k=2)/\cs.length=0))/\a.length<=4/\v.length<=4/\(∀t∈a,UT t)/\(∀t∈v,UT t)/\Pv cs
def Pv:List ae->Prop
 |[]=>True
 |c::cs=>Pw c/\Pv cs
end
theorem AG(c:ae):Pw c↔(c.kind=3\/((c.kind=1\/c.kind=2)/\c.conds.length=0))/\c.attr.length<=4/\c.value.length<=4/\(∀t∈c.attr,UT t)/\(∀t∈c.value,UT t)/\Pv c.conds:=by cases c;rfl
theorem Mb{l:List ae}:Pv l↔∀c∈l,Pw c:=by
 induction l with
 |nil=>simp[Pv]
 |cons c l ih=>simp[Pv,ih]
theorem GR{t:Test}(h:df t=true):UT t:=λe=>by
 unfold df at h;simp only[e,beq_self_eq_true,cond_true,and_eq_true]at h;exact h.1
theorem SK{c:ae}{d:Int}(h:bn c d=0):(c.kind=3\/((c.kind=1\/c.kind=2)/\c.conds.length=0))/\c.attr.length<=4/\c.value.length<=4/\(∀t∈c.attr,UT t)/\(∀t∈c.value,UT t):=by
 unfold bn at h;cases h3:c.kind == 3 with
 |true=>
  rw[h3]at h;simp only[cond_true]at h;have hk:c.kind=3:=by simpa using h3
  cases hb:(c.goal||(!aK c.id ⟨#[]⟩||(decide (0<c.attr.length)||(decide (0<c.value.length)||(c.acc||decide (c.conds.length=0))))))with
  |true=>rw[hb]at h;simp at h
  |false=>
   simp only[or_eq_false_iff,decide_eq_false_iff_not]at hb;obtain⟨_,_,ha,hv,_⟩:=hb;refine⟨.inl hk,by omega,by omega,λt ht=>?_,λt ht=>?_⟩
   ·have:=List.length_pos_of_mem ht;omega
   ·have:=List.length_pos_of_mem ht;omega
 |false=>
  rw[h3]at h;simp only[cond_false]at h;cases lS:(c.kind == 1)||(c.kind == 2)with
  |false=>rw[lS]at h;simp at h
  |true=>
   rw[lS]at h;simp only[cond_true]at h;have hk:c.kind=1\/c.kind=2:=by simpa using lS
   cases hb:(decide (0<c.conds.length)||(!eP c.id||decide (c.attr.length=0)))with
   |true=>rw[hb]at h;simp at h
   |false=>
    rw[hb]at h;simp only[cond_false]at h;cases hm:(decide (4<c.attr.length)||decide (4<c.value.length))with
    |true=>rw[hm]at h;simp at h
    |false=>
     rw[hm]at h;simp only[cond_false]at h;cases ht:(!(c.attr.all df)|| !(c.value.all df))with
     |true=>rw[ht]at h;simp at h
     |false=>
      simp only[or_eq_false_iff,decide_eq_false_iff_not,Bool.not_eq_false',all_eq_true]at hb hm ht;exact⟨.inr ⟨hk,by omega⟩,by omega,by omega,λt h=>GR (ht.1 t h),λt h=>GR (ht.2 t h)⟩
theorem qM{l:List (Nat×Nat×ae)}(h:cR l=none):∀x∈l,bn x.2.2 x.2.1=0:=by
 induction l with
 |nil=>intro x hx;cases hx
 |cons y l ih=>
  obtain⟨a,d,c⟩:=y;simp only[cR]at h;cases hc:bn c d == 0 with
  |false=>rw[hc]at h;cases h
  |true=>
   rw[hc]at h;intro x hx;rcases mem_cons.1 hx with rfl|hx
   ·simpa using hc
   ·exact ih h x hx
mutual
theorem UX:∀(c:ae) (a d:Nat),(∀x∈f_ c a d,bn x.2.2 x.2.1=0)->Pw c
 | .mk k g i at_ v ac cs,a,d,h=>by
   have h0:=SK (h (a,d,.mk k g i at_ v ac cs) (by simp[f_]))
   exact⟨h0.1,h0.2.1,h0.2.2.1,h0.2.2.2.1,h0.2.2.2.2,EY cs (a+1) (d+1) λx hx=>h x (by simp[f_,hx])⟩
theorem EY:∀(l:List ae) (a d:Nat),(∀x∈cQ l a d,bn x.2.2 x.2.1=0)->Pv l
 |[],_,_,_=>trivial
 |c::cs,a,d,h=>⟨UX c a d λx hx=>h x (by simp[cQ,hx]),EY cs (a+aN c) d λx hx=>h x (by simp[cQ,hx])⟩
end
def nK(K:List ByteArray)(a:Atom):Bool:= !aK a.var ⟨#[]⟩&& !hasB K a.var
def iR(K:List ByteArray)(a:cN):Bool:=nK K a.attr||((a.value.op != 0)&&(nK K a.value.a||nK K a.value.b))
def iv(K:List ByteArray):Nat->List cN->Option Nat
 |_,[]=>none
 |i,a::l=>bif iR K a then some i else iv K (i+1) l
theorem yM{K:List ByteArray}{l:List cN}{k i:Nat}(hk:k<l.length)(h:iv K i (l.take k)=none):iv K i (l.take (k+1))=(bif iR K l[k]then some (i+k)else none):=by
 induction l generalizing k i with
 |nil=>simp at hk
 |cons a l ih=>
  cases k with
  |zero=>simp[iv]
  |succ k=>
   simp only[take_succ_cons,iv,getElem_cons_succ]at h |-;cases ha:iR K a with
   |true=>rw[ha]at h;cases h
   |false=>
    rw[ha]at h;simp only[cond_false]at h |-;rw[ih (by simpa using hk) h];congr 2;omega
theorem Bt{K:List ByteArray}{l:List cN}{k i:Nat}(hk:k<l.length)(h:iv K i (l.take k)=none)(ha:iR K l[k]=true):iv K i l=some (i+k):=by
 induction l generalizing k i with
 |nil=>simp at hk
 |cons a l ih=>
  cases k with
  |zero=>simp only[List.getElem_cons_zero]at ha;simp[iv,ha]
  |succ k=>
   simp only[take_succ_cons,iv,getElem_cons_succ]at h ha |-;cases hb:iR K a with
   |true=>rw[hb]at h;cases h
   |false=>
    rw[hb]at h;simp only[cond_false]at h |-;rw[ih (by simpa using hk) h ha];congr 1;omega
def bQ(p:Prod):Int×Int×List ByteArray:=
 bif (cJ p).2 != 0 then((cJ p).1,(cJ p).2,[])else
 bif (p.conds.head?.map ae.kind).getD 0 != 1 then(0,9,[])else
 match dY p.conds 0 []with
 | .error n=>((n:Int),6,[])
 | .ok K=>match iv K 0 p.bh with
   |some i=>(((ah p.conds+i:Nat):Int),6,[])
   |none=>(-1,0,K)
theorem wN{p:Prod}(h:(cJ p).2=0):1<=ah p.conds/\ah p.conds<=16/\1<=p.bh.length/\p.bh.length<=16/\Pv p.conds:=by
 unfold cJ at h;cases hw:eP p.name with
 |false=>rw[hw]at h;simp at h
 |true=>
  rw[hw]at h;simp only[Bool.not_true,cond_false]at h;cases hb:(decide (ah p.conds<1)||(decide (16<ah p.conds)||(decide (p.bh.length<1)||decide (16<p.bh.length))))with
  |true=>rw[hb]at h;simp at h
  |false=>
   rw[hb]at h;simp only[cond_false]at h;simp only[or_eq_false_iff,decide_eq_false_iff_not]at hb;refine⟨by omega,by omega,by omega,by omega,EY _ 0 0 (qM ?_)⟩;unfold jt at h;split at h
   ·rename_i a e he;exfalso;have:∀l:List (Nat×Nat×ae),cR l=some (a,e)->e≠0:=by
     intro l;induction l with
     |nil=>intro h;cases h
     |cons y l ih=>
      obtain⟨a',d,c⟩:=y;simp only[cR];cases hc:bn c d == 0 with
      |true=>exact ih
      |false=>
       intro h;simp only[cond_false,Option.some.injEq,Prod.mk.injEq]at h;rw[<- h.2];simpa using hc
    exact this _ he h
   ·assumption
structure IS(r:ByteArray->ByteArray):Prop where
 e0:r ⟨#[]⟩=⟨#[]⟩
 w:∀a,eP a=true->eP (r a)=true
 inv:∀a,eP a=true->r (r a)=a
def nm(v:ByteArray):Prop:=v=⟨#[]⟩\/eP v=true
theorem Eu{v:ByteArray}(h:eP v=true):v≠⟨#[]⟩:=by
 rintro rfl;have:eP ⟨#[]⟩=false:=by kernel_rfl
 rw[this]at h;cases h
section
variable {r:ByteArray->ByteArray} (hr:IS r)
include hr
theorem IS.eq{a b:ByteArray}(ha:Go.Proofs.YthaeiehophlooaaGreat.nm a)(hb:Go.Proofs.YthaeiehophlooaaGreat.nm b):aK (r a) (r b)=aK a b:=by
 by_cases e:a=b
 ·subst e;rw[fE,fE]
 ·rw[jN.2 e,jN];intro e2;rcases ha with rfl|ha<;>rcases hb with rfl|hb
  ·exact e rfl
  ·rw[hr.e0]at e2;exact Eu (hr.w b hb) e2.symm
  ·rw[hr.e0]at e2;exact Eu (hr.w a ha) e2
  ·exact e (by rw[<- hr.inv a ha,e2,hr.inv b hb])
theorem IS.emp{v:ByteArray}(hv:Go.Proofs.YthaeiehophlooaaGreat.nm v):aK (r v) ⟨#[]⟩=aK v ⟨#[]⟩:=by
 have:=hr.eq hv (.inl rfl:Go.Proofs.YthaeiehophlooaaGreat.nm ⟨#[]⟩);rw[hr.e0]at this;exact this
end
def jv(r:ByteArray->ByteArray)(t:Test):Test:={t with var:=r t.var}
mutual
def fi(r:ByteArray->ByteArray):ae->ae
 | .mk k g i a v ac cs=>.mk k g (r i) (a.map (jv r)) (v.map (jv r)) ac (Cu r cs)
def Cu(r:ByteArray->ByteArray):List ae->List ae
 |[]=>[]
 |c::cs=>fi r c::Cu r cs
end
theorem EM(r:ByteArray->ByteArray):∀l,Cu r l=l.map (fi r)
 |[]=>rfl
 |c::cs=>by simp[Cu,EM r cs]
theorem zD(r:ByteArray->ByteArray)(c:ae):fi r c=.mk c.kind c.goal (r c.id) (c.attr.map (jv r)) (c.value.map (jv r)) c.acc (c.conds.map (fi r)):=by
 cases c;simp only[fi,EM];rfl
def LP(r:ByteArray->ByteArray)(a:Atom):Atom:={a with var:=r a.var}
def za(r:ByteArray->ByteArray)(a:cN):cN:={id:=r a.id,attr:=LP r a.attr,value:={op:=a.value.op,a:=LP r a.value.a,b:=LP r a.value.b},pE:=a.pE,other:=LP r a.other}
def Ct(r:ByteArray->ByteArray)(p:Prod):Prod:=⟨p.name,p.conds.map (fi r),p.bh.map (za r)⟩
mutual
def Vc:ae->Prop
 | .mk _ _ i a v _ cs=>nm i/\(∀t∈a,nm t.var)/\(∀t∈v,nm t.var)/\tu cs
def tu:List ae->Prop
 |[]=>True
 |c::cs=>Vc c/\tu cs
end
theorem Rb(c:ae):Vc c↔nm c.id/\(∀t∈c.attr,nm t.var)/\(∀t∈c.value,nm t.var)/\tu c.conds:=by cases c;rfl
theorem nH{l:List ae}:tu l↔∀c∈l,Vc c:=by
 induction l with
 |nil=>simp[tu]
 |cons c l ih=>simp[tu,ih]
def Oa(a:Atom):Prop:=nm a.var
def nmA(a:cN):Prop:=nm a.id/\Oa a.attr/\Oa a.value.a/\Oa a.value.b/\Oa a.other
theorem qX{a:Atom}(h:iC a=true):Oa a:=by
 unfold iC at h;cases he:aK a.var ⟨#[]⟩with
 |true=>exact .inl (bD.1 he)
 |false=>
  rw[he]at h;simp only[cond_false,and_eq_true]at h;exact .inr h.1
theorem Ea{a:Atom}(h:oM a=true):Oa a:=by
 unfold oM at h;simp only[and_eq_true]at h;exact .inl (bD.1 h.1)
theorem GS{t:Test}(h:df t=true):nm t.var:=by
 unfold df at h;cases h8:t.rel == 8 with
 |true=>
  rw[h8]at h;simp only[cond_true,and_eq_true]at h;exact .inl (bD.1 h.1)
 |false=>
  rw[h8]at h;simp only[cond_false,and_eq_true]at h;exact qX (a:=⟨t.var,t.sym⟩) h.2.2.2
theorem WG{a:cN}(h:hY a=true):nmA a:=by
 unfold hY kG at h;simp only[and_eq_true]at h;obtain⟨h1,h2,⟨_,_,h3,h4⟩,_,_,h5⟩:=h;refine⟨.inr h1,qX h2,qX h3,?_,?_⟩
 ·cases ho:a.value.op == 0 with
  |true=>rw[ho]at h4;exact Ea h4
  |false=>
   rw[ho]at h4;simp only[cond_false,and_eq_true]at h4;exact qX h4.1
 ·cases ho:wY a.pE with
  |true=>rw[ho]at h5;exact qX h5
  |false=>rw[ho]at h5;exact Ea h5
theorem SL{c:ae}{d:Int}(h:bn c d=0):nm c.id/\(∀t∈c.attr,nm t.var)/\(∀t∈c.value,nm t.var):=by
 unfold bn at h;cases h3:c.kind == 3 with
 |true=>
  rw[h3]at h;simp only[cond_true]at h;cases hb:(c.goal||(!aK c.id ⟨#[]⟩||(decide (0<c.attr.length)||(decide (0<c.value.length)||(c.acc||decide (c.conds.length=0))))))with
  |true=>rw[hb]at h;simp at h
  |false=>
   simp only[or_eq_false_iff,decide_eq_false_iff_not]at hb;obtain⟨_,b1,b2,b3,_⟩:=hb;have e1:c.attr=[]:=List.eq_nil_of_length_eq_zero (by omega);have e2:c.value=[]:=List.eq_nil_of_length_eq_zero (by omega);refine⟨.inl (bD.1 (by simpa using b1)),by rw[e1];simp,by rw[e2];simp⟩
 |false=>
  rw[h3]at h;simp only[cond_false]at h;cases hk:((c.kind == 1)||(c.kind == 2))with
  |false=>rw[hk]at h;simp at h
  |true=>
   rw[hk]at h;simp only[cond_true]at h;cases hb:(decide (0<c.conds.length)||(!eP c.id||decide (c.attr.length=0)))with
   |true=>rw[hb]at h;simp at h
   |false=>
    rw[hb]at h;simp only[cond_false]at h;cases ph:(decide (4<c.attr.length)||decide (4<c.value.length))with
    |true=>rw[ph]at h;simp at h
    |false=>
     rw[ph]at h;simp only[cond_false]at h;cases DU:(!(c.attr.all df)|| !(c.value.all df))with
     |true=>rw[DU]at h;simp at h
     |false=>
      simp only[or_eq_false_iff,Bool.not_eq_false']at hb DU;exact⟨.inr hb.2.1,λt ht=>GS (all_eq_true.1 DU.1 t ht),λt ht=>GS (all_eq_true.1 DU.2 t ht)⟩
mutual
theorem Vb:∀(c:ae) (a d:Nat),(∀x∈f_ c a d,bn x.2.2 x.2.1=0)->Vc c
 | .mk k g i at_ v ac cs,a,d,h=>by
   obtain⟨h1,h2,h3⟩:=SL (h (a,d,.mk k g i at_ v ac cs) (by simp[f_]))
   exact⟨h1,h2,h3,AL cs (a+1) (d+1) λx hx=>h x (by simp[f_,hx])⟩
theorem AL:∀(l:List ae) (a d:Nat),(∀x∈cQ l a d,bn x.2.2 x.2.1=0)->tu l
 |[],_,_,_=>trivial
 |c::cs,a,d,h=>⟨Vb c a d λx hx=>h x (by simp[cQ,hx]),AL cs (a+aN c) d λx hx=>h x (by simp[cQ,hx])⟩
end
theorem Ix{l:List cN}{i:Nat}(h:gq i l=none):∀a∈l,hY a=true:=by
 induction l generalizing i with
 |nil=>intro a ha;cases ha
 |cons b l ih=>
  simp only[gq]at h;cases hb:hY b with
  |false=>rw[hb]at h;cases h
  |true=>
   rw[hb]at h;intro a ha;rcases mem_cons.1 ha with rfl|ha
   ·exact hb
   ·exact ih h a ha
theorem NL{p:Prod}(h:(cJ p).2=0):tu p.conds/\∀a∈p.bh,nmA a:=by
 have hT:(jt p).2=0:=by
  unfold cJ at h;cases hw:eP p.name with
  |false=>rw[hw]at h;simp at h
  |true=>
   rw[hw]at h;simp only[Bool.not_true,cond_false]at h;cases hb:(decide (ah p.conds<1)||(decide (16<ah p.conds)||(decide (p.bh.length<1)||decide (16<p.bh.length))))with
   |true=>rw[hb]at h;simp at h
   |false=>rw[hb]at h;exact h
 unfold jt at hT;split at hT
 ·rename_i a e he;exact absurd hT (nR he)
 ·rename_i he;refine⟨AL _ 0 0 (qM he),?_⟩;split at hT
  ·simp at hT
  ·rename_i ha;exact λa h=>WG (Ix ha a h)
mutual
theorem NK(r:ByteArray->ByteArray):∀c,aN (fi r c)=aN c
 | .mk k g i a v ac cs=>by simp only[fi,aN,wM r cs]
theorem wM(r:ByteArray->ByteArray):∀l,ah (Cu r l)=ah l
 |[]=>rfl
 |c::cs=>by simp only[Cu,ah,NK r c,wM r cs]
end
end Go.Proofs.YthaeiehophlooaaGreat
