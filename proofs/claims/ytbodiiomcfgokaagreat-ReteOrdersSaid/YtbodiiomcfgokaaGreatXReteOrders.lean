/- What is proved: the statement ReteOrders, as it is given. Conditions: none. -/
import Derived.Test.YtbodiiomcfgokaaGreatB14
import Derived.WalkKit
import Derived.ProofKit
import Derived.OpenShut
import Derived.ShutString
set_option linter.all false
open Go.IntKind (wrap)
open Int (toNat tmod)
open List (length_map getElem_mem)
namespace Go.Proofs.YtbodiiomcfgokaaGreat
open Go.Proofs.Tryz Go.aK
variable {u0:Mem} {K:Kq}
set_option maxRecDepth 100000
theorem pF.c{m o:Fl}{l n:Lq}{g:Int}(h: aa prog 36 [.list 3 m l,.list 12 o n] u0 λe5 w=> ∃a9,e5=pB a9/\ ab (!a9) (aa prog 19 [] w λe6 d0=> ∃b0,e6=pB b0/\ K (pB b0) d0) (aa prog 22 [.list 3 m l,.list 12 o n] w λf7 z=> ∃e f,f7=(.aD [pA e,pA f])/\ ab (Option.isNone e) (K (pB false) z) (aa prog 52 [pI 200,pI 400] z λg2 j=> ∃a b1,g2=(.aD [pA a,pI b1])/\ ab (b1 != 0) (K (pB false) j) (ab (Option.isNone a) (K (pB false) j) (nP f λc0 c6=> ∃g9 d,aB j c0 (c6+2) 1=some [.list 3 g9 d]/\ aa prog 31 [pI g,pI (wrap .i64 ((d.length:Int)+1))] j λg3 q=> ∃r,g3=(pI r)/\ bZ (α:=Unit) (λt=> (2:Int)≠0/\ ab (((tmod g 2):Int) == 0) (nP f λc1 c7=> ∃b3 b2,aB q c1 (c7+3) 1=some [.list 12 b3 b2]/\ aa prog 39 [pA a,.list 12 b3 b2,.list 1 .nil []] q λg4 D=> ∃b4,g4=(pI b4)/\ ab (b4 != 0) (K (pB false) D) (t () D)) (t () q)) (λh4 e3=> ak (α:=Int) (λc4 i k=> ab (decide (i>=0)) ((d.length:Int)≠0/\ 0<=(tmod (wrap .i64 (i+r)) (d.length:Int))/\∃(v:List PV),(d)[toNat (tmod (wrap .i64 (i+r)) (d.length:Int))]?=some v/\ ∃b5 h0 b6 h1 b7,ay v 0 3=some [pS b5,.list 7 h0 b6,.list 19 h1 b7]/\ aa prog 41 [pA a,.agg [pS b5,.list 7 .sh b6,.list 19 .sh b7]] k λg5 E=> ∃b8,g5=(pI b8)/\ ab (b8 != 0) (K (pB false) E) (c4 (wrap .i64 (i-1)) E)) (bZ (α:=Unit) (λu=> (2:Int)≠0/\ ab (((tmod g 2):Int) != 0) (nP f λc2 c8=> ∃h2 b9,aB k c2 (c8+3) 1=some [.list 12 h2 b9]/\ ak (α:=Int) (λc5 b p=> ab (decide (b>=0)) (nP f λc3 c9=> ∃h3 s,aB p c3 (c9+3) 1=some [.list 12 h3 s]/\ 0<=b/\b<=(wrap .i64 (b+1))/\(wrap .i64 (b+1))<=(s.length:Int)/\ aa prog 39 [pA a,.list 12 .sh (List.drop (toNat b) (List.take (toNat (wrap .i64 (b+1))) s)),.list 1 .nil []] p λg6 x=> ∃F,g6=(pI F)/\ ab (F != 0) (aa prog 19 [] x λg7 d1=> ∃G,g7=pB G/\ K (pB G) d1) (c5 (wrap .i64 (b-1)) x)) (u () p)) (wrap .i64 ((b9.length:Int)-1)) k) (u () k)) (λh5 e4=> aa prog 58 [pA e] e4 λg8 d2=> ∃H I J,g8=(.fn H I J)/\ aa prog 23 [.fn H I J] d2 λe7 d3=> ∃M L,e7=(.list 2 M L)/\ aa prog 58 [pA a] d3 λe8 d4=> ∃N O P,e8=(.fn N O P)/\ aa prog 23 [.fn N O P] d4 λe9 d5=> ∃R Q,e9=(.list 2 R Q)/\ aa prog 29 [.list 2 M L,.list 2 R Q] d5 λf0 y=> ∃S,f0=pB S/\ ab S (aa prog 66 [pA e] y λf1 d6=> ∃T U V,f1=(.fn T U V)/\ aa prog 65 [.fn T U V] d6 λf2 d7=> ∃X W,f2=(.list 3 X W)/\ aa prog 66 [pA a] d7 λf3 d8=> ∃Y Z a0,f3=(.fn Y Z a0)/\ aa prog 65 [.fn Y Z a0] d8 λf4 d9=> ∃a2 a1,f4=(.list 3 a2 a1)/\ aa prog 64 [.list 3 X W,.list 3 a2 a1] d9 λf5 A=> ∃a3,f5=pB a3/\ ab a3 (aa prog 32 [pA e] A λf6 e0=> ∃a4,f6=(pI a4)/\ aa prog 32 [pA a] e0 λf8 B=> ∃a5,f8=(pI a5)/\ ab (a4 == a5) (aa prog 49 [pA e] B λf9 e1=> ∃a6,f9=(pI a6)/\ aa prog 49 [pA a] e1 λg0 C=> ∃a7,g0=(pI a7)/\ ab (a6 == a7) (aa prog 19 [] C λg1 e2=> ∃a8,g1=pB a8/\ K (pB a8) e2) (K (pB false) C)) (K (pB false) B)) (K (pB false) A)) (K (pB false) y)))) (wrap .i64 ((d.length:Int)-1)) e3)))))):aa prog 12 [.list 3 m l,.list 12 o n,pI g] u0 K:= VC [] [(14,⟨[(13,.one (.raw (.int .i64)))],[]⟩),(20,⟨[(14,.one (.raw (.int .i64)))],[]⟩)] [(13,⟨[],[]⟩),(24,⟨[],[]⟩)] [] [] [] [] func12 h
theorem cD.c{b:Fl}{a:Lq}{d:Int}(h: aa prog 69 [.list 12 b a,pI d] u0 λg f=> ∃e,g=pB e/\ K (pB e) f):aa prog 16 [.list 12 b a,pI d] u0 K:= VC [] [] [] [] [] [] [] func16 h
theorem eJ.c{s t:Fl}{b d:Lq}(h: ab ((b.length:Int) != (d.length:Int)) (K (pB false) u0) (ak (α:=Int) (λu a e=> ab (decide (a<(b.length:Int))) (0<=a/\∃(f:List PV),(b)[toNat a]?=some f/\ ∃l,ay f 0 1=some [pS l]/\ 0<=a/\∃(g:List PV),(d)[toNat a]?=some g/\ ∃m,ay g 0 1=some [pS m]/\ ab (!aJ l m) (K (pB false) e) (0<=a/\∃(i:List PV),(b)[toNat a]?=some i/\ ∃o n,ay i 1 1=some [.list 1 o n]/\ 0<=a/\∃(j:List PV),(d)[toNat a]?=some j/\ ∃q p,ay j 1 1=some [.list 1 q p]/\ aa prog 77 [.list 1 o n,.list 1 q p] e λv k=> ∃r,v=pB r/\ ab (!r) (K (pB false) k) (u (wrap .i64 (a+1)) k))) (K (pB true) e)) (0) u0)):aa prog 29 [.list 2 s b,.list 2 t d] u0 K:= VC [] [(4,⟨[(5,.one (.raw (.int .i64)))],[]⟩)] [] [] [] [] [] func29 h
theorem cG.c{m:Fl}{a:Lq}{d:Int}(h: ab (decide ((a.length:Int)>d)) (K (pB true) u0) (ak (α:=Int) (λn b f=> ab (decide (b<(a.length:Int))) (0<=b/\∃(e:List PV),(a)[toNat b]?=some e/\ ∃i p j q k,ay e 0 3=some [pS i,.list 7 p j,.list 19 q k]/\ aa prog 15 [.agg [pS i,.list 7 .sh j,.list 19 .sh k]] f λo g=> ∃l,o=pB l/\ ab l (K (pB true) g) (n (wrap .i64 (b+1)) g)) (K (pB false) f)) (0) u0)):aa prog 30 [.list 3 m a,pI d] u0 K:= VC [] [(4,⟨[(5,.one (.raw (.int .i64)))],[]⟩)] [] [] [] [] [] func30 h
theorem eX.c{b a:Int}(h: ab (decide (a<1)) (K (pI 0) u0) ((a:Int)≠0/\ ab (decide (((tmod b a):Int)<0)) (K (pI (wrap .i64 ((tmod b a)+a))) u0) (K (pI (tmod b a)) u0))):aa prog 31 [pI b,pI a] u0 K:= VC [] [] [] [] [] [] [] func31 h
theorem ee.c{a:Option Addr}(h: nP a λe f=> ∃b,aB u0 e (f+2) 1=some [pA b]/\ aa prog 82 [pA b] u0 λi g=> ∃d,i=(pI d)/\ K (pI d) g):aa prog 32 [pA a] u0 K:= VC [] [] [] [] [] [] [] func32 h
theorem eW.c{b e:Fl}{a d:Lq}(h: aa prog 30 [.list 3 b a,pI 6] u0 λk f=> ∃i,k=pB i/\ ab (!i) (aa prog 16 [.list 12 e d,pI 30] f λl j=> ∃g,l=pB g/\ K (pB g) j) (K (pB false) f)):aa prog 36 [.list 3 b a,.list 12 e d] u0 K:= VC [] [] [] [] [] [] [] func36 h
theorem eP.c{l:Option Addr}(h: bJ u0 3 [pI 0] λa E=> stM a 0 [pI 0] E λo=> nP l λx B=> ∃q,aB o x (B+6) 1=some [pA q]/\ aa prog 89 [pA q] o λI F=> ∃r s t,I=(.fn r s t)/\ bk prog (.fn r s t) (λJ w G=> ∃L M O N Q P R g,J=[pS L,.agg [pS M,.list 7 O N,.list 19 Q P,.list 1 R g]]/\ ak (α:=Int) (λz b e=> ab (decide (b<(g.length:Int))) (0<=b/\∃(m:List PV),(g)[toNat b]?=some m/\ ∃u,ay m 0 1=some [pA u]/\ nP u λy C=> ∃S i,aB e y (C+10) 1=some [.list 1 S i]/\ ak (α:=Int) (λA d f=> ab (decide (d<(i.length:Int))) (0<=d/\∃(n:List PV),(i)[toNat d]?=some n/\ ∃j,ay n 0 1=some [pI j]/\ ∃k,aB f a 0 1=some [pI k]/\ stM a 0 [pI (if j>k then j else k)] f λH=> A (wrap .i64 (d+1)) H) (z (wrap .i64 (b+1)) f)) (0) e) (w none e)) (0) G) (λD p=> PK D (∃v,aB p a 0 1=some [pI v]/\ K (pI v) p) (False) []) F):aa prog 49 [pA l] u0 K:= VC [5] [(5,⟨[(20,.one (.raw (.int .i64)))],[]⟩),(8,⟨[(29,.one (.raw (.int .i64)))],[]⟩)] [] [(15,[139,129])] [] [] [] func49 h
theorem yU.c{a g:ByteArray}{d f j l:Fl}{b e i k:Lq}(h: ab (aJ a g) (aa prog 83 [.list 7 d b,.list 7 j i] u0 λq m=> ∃n,q=pB n/\ ab n (aa prog 123 [.list 19 f e,.list 19 l k] m λr p=> ∃o,r=pB o/\ K (pB o) p) (K (pB false) m)) (K (pB false) u0)):aa prog 62 [.agg [pS a,.list 7 d b,.list 19 f e],.agg [pS g,.list 7 j i,.list 19 l k]] u0 K:= VC [2,3] [] [] [] [] [] [] func62 h
theorem wX.c{q r:Fl}{b d:Lq}(h: ab ((b.length:Int) != (d.length:Int)) (K (pB false) u0) (ak (α:=Int) (λs a g=> ab (decide (a<(b.length:Int))) (0<=a/\∃(e:List PV),(b)[toNat a]?=some e/\ ∃j u k v l,ay e 0 3=some [pS j,.list 7 u k,.list 19 v l]/\ 0<=a/\∃(f:List PV),(d)[toNat a]?=some f/\ ∃m w n x o,ay f 0 3=some [pS m,.list 7 w n,.list 19 x o]/\ aa prog 62 [.agg [pS j,.list 7 .sh k,.list 19 .sh l],.agg [pS m,.list 7 .sh n,.list 19 .sh o]] g λt i=> ∃p,t=pB p/\ ab (!p) (K (pB false) i) (s (wrap .i64 (a+1)) i)) (K (pB true) g)) (0) u0)):aa prog 64 [.list 3 q b,.list 3 r d] u0 K:= VC [] [(4,⟨[(5,.one (.raw (.int .i64)))],[]⟩)] [] [] [] [] [] func64 h
theorem og.c{g:Fn}{i j:List PV}(h: bJ u0 43 [.list 3 .nil []] λa s=> bk prog (.fn g i j) (λv p k=> ∃b w d x e,v=[.agg [pS b,.list 7 w d,.list 19 x e]]/\ ∃o f,aB k a 0 1=some [.list 3 o f]/\ aV false 3 64 o f [[pS b,.list 7 .sh d,.list 19 .sh e]] k λq t=> stM a 0 [.list 3 q (f++[[pS b,.list 7 .sh d,.list 19 .sh e]])] t λu=> p none u) (λr l=> PK r (∃n m,aB l a 0 1=some [.list 3 n m]/\ K (.list 3 n m) l) (False) []) s):aa prog 65 [.fn g i j] u0 K:= VC [4] [] [] [(8,[25])] [] [] [] func65 h
theorem Ap.c{a:Option Addr}(h: K (.fn (.func 125) [] [.bn [pA a] 0]) u0):aa prog 66 [pA a] u0 K:= VC [] [] [] [] [1] [] [] func66 h
theorem cB.c{m:Fl}{b:Lq}{e:Int}(h: ab (decide ((b.length:Int)>e)) (K (pB false) u0) (ak (α:=Int) (λn a d=> ab (decide (a<(b.length:Int))) (0<=a/\∃(f:List PV),(b)[toNat a]?=some f/\ ∃j,ay f 1 1=some [pS j]/\ ab (decide ((((ByteArray.size j:Nat):Int):Int)>100)) (K (pB false) d) (0<=a/\∃(g:List PV),(b)[toNat a]?=some g/\ ∃k,ay g 4 1=some [pS k]/\ ab (decide ((((ByteArray.size k:Nat):Int):Int)>100)) (K (pB false) d) (0<=a/\∃(i:List PV),(b)[toNat a]?=some i/\ ∃l,ay i 7 1=some [pS l]/\ ab (decide ((((ByteArray.size l:Nat):Int):Int)>100)) (K (pB false) d) (n (wrap .i64 (a+1)) d)))) (K (pB true) d)) (0) u0)):aa prog 69 [.list 12 m b,pI e] u0 K:= VC [] [(4,⟨[(5,.one (.raw (.int .i64)))],[]⟩)] [] [] [] [] [] func69 h
theorem dK.c{k l:Fl}{b d:Lq}(h: ab ((b.length:Int) != (d.length:Int)) (K (pB false) u0) (ak (α:=Int) (λm a e=> ab (decide (a<(b.length:Int))) (0<=a/\∃(f:List PV),(b)[toNat a]?=some f/\ ∃i,ay f 0 1=some [pI i]/\ 0<=a/\∃(g:List PV),(d)[toNat a]?=some g/\ ∃j,ay g 0 1=some [pI j]/\ ab (i != j) (K (pB false) e) (m (wrap .i64 (a+1)) e)) (K (pB true) e)) (0) u0)):aa prog 77 [.list 1 k b,.list 1 l d] u0 K:= VC [] [(4,⟨[(5,.one (.raw (.int .i64)))],[]⟩)] [] [] [] [] [] func77 h
theorem gJ.c{e:Option Addr}(h: nP e λj m=> ∃i d q,aB u0 j (m+7) 1=some [pV i d q]/\ ak (α:=Int×Int) (λl a b=> ab (decide (a.2<((d:Nat):Int))) (cK i λk n=> 0<=a.2/\a.2<((d:Nat):Int)/\ ∃f,aB b k (n+toNat a.2*1) 1=some [pA f]/\ aa prog 82 [pA f] b λp o=> ∃g,p=(pI g)/\ l ((wrap .i64 ((wrap .i64 (a.1+1))+g)),(wrap .i64 (a.2+1))) o) (K (pI a.1) b)) (0,0) u0):aa prog 82 [pA e] u0 K:= VC [] [(3,⟨[(3,.one (.raw (.int .i64))),(11,.one (.raw (.int .i64)))],[]⟩)] [] [] [] [] [8,9] func82 h
theorem fF.c{y z:Fl}{b d:Lq}(h: ab ((b.length:Int) != (d.length:Int)) (K (pB false) u0) (ak (α:=Int) (λA a g=> ab (decide (a<(b.length:Int))) (0<=a/\∃(e:List PV),(b)[toNat a]?=some e/\ ∃j k l C m D n o E p,ay e 0 7=some [pI j,pB k,pS l,.list 6 C m,.list 6 D n,pB o,.list 7 E p]/\ 0<=a/\∃(f:List PV),(d)[toNat a]?=some f/\ ∃q r s F t G u v H w,ay f 0 7=some [pI q,pB r,pS s,.list 6 F t,.list 6 G u,pB v,.list 7 H w]/\ aa prog 141 [.agg [pI j,pB k,pS l,.list 6 .sh m,.list 6 .sh n,pB o,.list 7 .sh p],.agg [pI q,pB r,pS s,.list 6 .sh t,.list 6 .sh u,pB v,.list 7 .sh w]] g λB i=> ∃x,B=pB x/\ ab (!x) (K (pB false) i) (A (wrap .i64 (a+1)) i)) (K (pB true) g)) (0) u0)):aa prog 83 [.list 7 y b,.list 7 z d] u0 K:= VC [] [(4,⟨[(5,.one (.raw (.int .i64)))],[]⟩)] [] [] [] [] [] func83 h
theorem yV.c{V W:Fl}{b d:Lq}(h: ab ((b.length:Int) != (d.length:Int)) (K (pB false) u0) (ak (α:=Int) (λX a e=> ab (decide (a<(b.length:Int))) (0<=a/\∃(f:List PV),(b)[toNat a]?=some f/\ ∃i j k l m n o p q r s t u v w x y z A,ay f 0 19=some [pS i,pS j,pI k,pS l,pI m,pI n,pS o,pI p,pS q,pI r,pS s,pI t,pS u,pI v,pI w,pS x,pI y,pS z,pI A]/\ 0<=a/\∃(g:List PV),(d)[toNat a]?=some g/\ ∃B C D E F G H I J L M N O P Q R S T U,ay g 0 19=some [pS B,pS C,pI D,pS E,pI F,pI G,pS H,pI I,pS J,pI L,pS M,pI N,pS O,pI P,pI Q,pS R,pI S,pS T,pI U]/\ ab (!(aJ i B&&(aJ j C&&((k == D)&&(aJ l E&&((m == F)&&((n == G)&&(aJ o H&&((p == I)&&(aJ q J&&((r == L)&&(aJ s M&&((t == N)&&(aJ u O&&((v == P)&&((w == Q)&&(aJ x R&&((y == S)&&(aJ z T&&((A == U)&&true)))))))))))))))))))) (K (pB false) e) (X (wrap .i64 (a+1)) e)) (K (pB true) e)) (0) u0)):aa prog 123 [.list 19 V b,.list 19 W d] u0 K:= VC [] [(4,⟨[(5,.one (.raw (.int .i64)))],[]⟩)] [] [] [] [] [] func123 h
theorem wL.c{d:Fn}{e f g:List PV}(h: bJ u0 30 [.fn d e f] λB i=> ∃v,ay g 0 1=some [pA v]/\ nP v λA C=> ∃w,aB i A (C+6) 1=some [pA w]/\ aa prog 89 [pA w] i λG E=> ∃x y z,G=(.fn x y z)/\ bk prog (.fn x y z) (λJ b a=> ∃L l M m N n P O,J=[pS L,.agg [pS l,.list 7 M m,.list 19 N n,.list 1 P O]]/\ ∃o p q,aB a B 0 1=some [.fn o p q]/\ dz prog 109 [.agg [pS l,.list 7 .sh m,.list 19 .sh n]] a λH F=> ∃r Q s R t,H=(.agg [pS r,.list 7 Q s,.list 19 R t])/\ bY prog (.fn o p q) [.agg [pS r,.list 7 .sh s,.list 19 .sh t]] (Mem.or a F) λI k=> ∃u,I=pB u/\ ab (!u) (b (some .ret) k) (b none k)) (λD j=> PK D (K (.aD []) j) (K (.aD []) j) []) E):aa prog 125 [.fn d e f,.bn g 0] u0 K:= VC [4] [] [] [(10,[139,129])] [] [] [] func125 h
end Go.Proofs.YtbodiiomcfgokaaGreat
namespace Go.Proofs.YtbodiiomcfgokaaGreat
open Go.Proofs.Tryz Go.aK
variable {u0:Mem} {K:Kq}
set_option maxRecDepth 100000
theorem kt.c{a m:Int}{b j n t:Bool}{d o:ByteArray}{f i l q s v:Fl}{e g k p r u:Lq}(h: ab (a == m) (ab (b == n) (ab (aJ d o) (ab (j == t) (aa prog 204 [.list 6 f e,.list 6 q p] u0 λC w=> ∃y,C=pB y/\ ab y (aa prog 204 [.list 6 i g,.list 6 s r] w λD x=> ∃z,D=pB z/\ ab z (aa prog 83 [.list 7 l k,.list 7 v u] x λE B=> ∃A,E=pB A/\ K (pB A) B) (K (pB false) x)) (K (pB false) w)) (K (pB false) u0)) (K (pB false) u0)) (K (pB false) u0)) (K (pB false) u0)):aa prog 141 [.agg [pI a,pB b,pS d,.list 6 f e,.list 6 i g,pB j,.list 7 l k],.agg [pI m,pB n,pS o,.list 6 q p,.list 6 s r,pB t,.list 7 v u]] u0 K:= VC [2,3] [] [] [] [] [] [] func141 h
theorem jB.c{E F:Fl}{b d:Lq}(h: ab ((b.length:Int) != (d.length:Int)) (K (pB false) u0) (ak (α:=Int) (λG a e=> ab (decide (a<(b.length:Int))) (0<=a/\∃(f:List PV),(b)[toNat a]?=some f/\ ∃p,ay f 0 1=some [pI p]/\ 0<=a/\∃(g:List PV),(d)[toNat a]?=some g/\ ∃q,ay g 0 1=some [pI q]/\ ab (p != q) (K (pB false) e) (0<=a/\∃(i:List PV),(b)[toNat a]?=some i/\ ∃r,ay i 1 1=some [pS r]/\ 0<=a/\∃(j:List PV),(d)[toNat a]?=some j/\ ∃s,ay j 1 1=some [pS s]/\ ab (!aJ r s) (K (pB false) e) (0<=a/\∃(k:List PV),(b)[toNat a]?=some k/\ ∃t u v,ay k 2 3=some [pI t,pS u,pI v]/\ 0<=a/\∃(l:List PV),(d)[toNat a]?=some l/\ ∃w x y,ay l 2 3=some [pI w,pS x,pI y]/\ ab (!((t == w)&&(aJ u x&&((v == y)&&true)))) (K (pB false) e) (0<=a/\∃(m:List PV),(b)[toNat a]?=some m/\ ∃A z,ay m 5 1=some [.list 3 A z]/\ 0<=a/\∃(n:List PV),(d)[toNat a]?=some n/\ ∃C B,ay n 5 1=some [.list 3 C B]/\ aa prog 260 [.list 3 A z,.list 3 C B] e λH o=> ∃D,H=pB D/\ ab (!D) (K (pB false) o) (G (wrap .i64 (a+1)) o))))) (K (pB true) e)) (0) u0)):aa prog 204 [.list 6 E b,.list 6 F d] u0 K:= VC [] [(4,⟨[(5,.one (.raw (.int .i64)))],[]⟩)] [] [] [] [] [] func204 h
theorem kr.c{o p:Fl}{b d:Lq}(h: ab ((b.length:Int) != (d.length:Int)) (K (pB false) u0) (ak (α:=Int) (λq a e=> ab (decide (a<(b.length:Int))) (0<=a/\∃(f:List PV),(b)[toNat a]?=some f/\ ∃i j k,ay f 0 3=some [pI i,pS j,pI k]/\ 0<=a/\∃(g:List PV),(d)[toNat a]?=some g/\ ∃l m n,ay g 0 3=some [pI l,pS m,pI n]/\ ab (!((i == l)&&(aJ j m&&((k == n)&&true)))) (K (pB false) e) (q (wrap .i64 (a+1)) e)) (K (pB true) e)) (0) u0)):aa prog 260 [.list 3 o b,.list 3 p d] u0 K:= VC [] [(4,⟨[(5,.one (.raw (.int .i64)))],[]⟩)] [] [] [] [] [] func260 h
end Go.Proofs.YtbodiiomcfgokaaGreat
namespace Go.aK
open Go.RowKit
section
variable {P:Program} {w:World} {n:Nat} {t:TypeId} {cs:List Value}
section
variable {H:Type} {enc:TypeId×Value->H} {r:Reach} {base:Nat} {v:Value} {d:DataW H} {p:List MemPlace}
theorem mM{k:IntKind}(ht:P.underlying t=some (.int k))(hv:Value.okWide P w r base t v)(h:DataW.Trod enc P w 0 (λ_=>true) true t v d p):∃i,cy (gA w) (.raw (.int k i)) v/\(Lit.int k i).wf=true:=by
 obtain⟨i,rfl⟩:=WideShapes.okWide_int ht hv
 obtain⟨n,hn⟩:=Reads.of h
 obtain⟨j,e,hw⟩:=hn.int ht
 simp[Value.cells]at e
 subst e
 exact⟨_,.raw _ rfl rfl,hw⟩
end
end
end Go.aK
namespace Go.Proofs.YtbodiiomcfgokaaGreat
open Go.Proofs.Tryz Go.aK Go.RowKit
def dy(v:Int)(n:Nat):Nat:=(if tmod v n<0 then tmod v n+n else tmod v n).toNat
theorem jo(v:Int){n:Nat}(h:1<=n):dy v n<n:=by
 unfold dy
 have h1:=Int.tmod_lt_of_pos v (show(0:Int)<(n:Int) by omega)
 have h2:=Int.lt_tmod_of_pos v (show(0:Int)<(n:Int) by omega)
 split<;>omega
theorem nZ(v:Int)(n:Nat)(h1:1<=n)(h2:n<=1000000):Pure prog 31 [pI v,pI (n:Nat)] (pI (dy v n:Nat)):=by
 refine ao.of (eX.c ?_)
 have hm:=Int.tmod_lt_of_pos v (show(0:Int)<(n:Int) by omega)
 have Wk:=Int.lt_tmod_of_pos v (show(0:Int)<(n:Int) by omega)
 refine ab.f (by simp;omega) ⟨by omega,ab.mk (λh=>?_) (λh=>?_)⟩
 ·have h:=of_decide_eq_true h
  rw[az (by omega) (by omega)]
  simp only[wk,aK.cH,dy]
  rw[if_pos h]
  congr 2;omega
 ·have h:=of_decide_eq_false h
  simp only[wk,aK.cH,dy]
  rw[if_neg h]
  congr 2;omega
theorem SN(f g:Fl)(l m:List Sym)(hl:l.length<=1000000000):aZ 260 [.list 3 f (l.map Sym.pv),.list 3 g (m.map Sym.pv)] (l=m):=by
 refine ao.of (kr.c (ab.mk (λh=>aZ.no (i_ h)) (λh=>?_)))
 refine fE (l:=l) (m:=m) (n:=l.length) rfl (ix h) (by omega) (λk hk bW u next hy cm=>?_) (λu next e=>ab.f (by simp) (aZ.yes e))
 refine ab.t (by simpa using hk) ⟨by omega,_,aw hk,_,_,_,rfl,by omega,_,aw bW,_,_,_,rfl,ab.mk (λh=>aZ.no (cm λe=>?_)) (λh=>hy (cF.1 (nt h)) _)⟩
 have h':gf l[k] m[k]=false:=nb h
 rw[cF.2 e]at h';cases h'
theorem CL(f g:Fl)(l m:List Test)(hl:l.length<=1000000000)(ht:∀t∈l,t.list.length<=1000000000):aZ 204 [.list 6 f (l.map Test.pv),.list 6 g (m.map Test.pv)] (l=m):=by
 refine ao.of (jB.c (ab.mk (λh=>aZ.no (i_ h)) (λh=>?_)))
 refine fE (l:=l) (m:=m) (n:=l.length) rfl (ix h) (by omega) (λk hk bW u next hy cm=>?_) (λu next e=>ab.f (by simp) (aZ.yes e))
 refine ab.t (by simpa using hk) ⟨by omega,_,aw hk,_,rfl,by omega,_,aw bW,_,rfl,ab.mk (λh1=>aZ.no (cm λe=>?_)) (λh1=>⟨by omega,_,aw hk,_,rfl,by omega,_,aw bW,_,rfl,ab.mk (λh2=>aZ.no (cm λe=>?_)) (λh2=>⟨by omega,_,aw hk,_,_,_,rfl,by omega,_,aw bW,_,_,_,rfl,ab.mk (λh3=>aZ.no (cm λe=>?_)) (λh3=>⟨by omega,_,aw hk,_,_,rfl,by omega,_,aw bW,_,_,rfl,?_⟩)⟩)⟩)⟩
 ·rw[e]at h1;simp at h1
 ·rw[e,dX]at h2;cases h2
 ·have:=nb h3
  rw[show((l[k].sym.k == m[k].sym.k)&&(aJ l[k].sym.t m[k].sym.t&&((l[k].sym.n == m[k].sym.n)&&true)))=true from cF.2 (by rw[e])]at this;cases this
 ·refine(SN _ _ l[k].list m[k].list (ht _ (getElem_mem hk))).call (λe=>⟨_,rfl,ab.f rfl (hy (BN (by simpa using h1) (bI.1 (nt h2)) (cF.1 (nt h3)) e) _)⟩) (λaT=>⟨_,rfl,ab.t rfl (aZ.no (cm λe=>aT (by rw[e])))⟩)
theorem Mr(n:Nat)(ih:∀(f g:Fl) (l m:List ae),aj l<=n->aj l<=1000000->bD l->aZ 83 [.list 7 f (l.map ae.pv),.list 7 g (m.map ae.pv)] (l=m))(c d:ae)(hs:aj c.conds<=n)(h6:aj c.conds<=1000000)(hl:cr c):aZ 141 [.agg [pI c.kind,pB c.goal,pS c.id,.list 6 .sh (c.attr.map Test.pv),.list 6 .sh (c.value.map Test.pv),pB c.acc,.list 7 .sh (c.conds.map ae.pv)],.agg [pI d.kind,pB d.goal,pS d.id,.list 6 .sh (d.attr.map Test.pv),.list 6 .sh (d.value.map Test.pv),pB d.acc,.list 7 .sh (d.conds.map ae.pv)]] (c=d):=by
 obtain⟨_,l1,l2,l3,l4,l5⟩:=(bu c).1 hl
 refine ao.of (kt.c ?_)
 refine ab.mk (λh1=>ab.mk (λh2=>ab.mk (λh3=>ab.mk (λh4=>?_) (λh=>aZ.no λe=>?_)) (λh=>aZ.no λe=>?_)) (λh=>aZ.no λe=>?_)) (λh=>aZ.no λe=>?_)
 ·refine(CL _ _ c.attr d.attr (by omega) (λt ht=>by have:=cI l3 t ht;omega)).call (λe1=>⟨_,rfl,ab.t rfl ?_⟩) (λaT=>⟨_,rfl,ab.f rfl (aZ.no λe=>aT (by rw[e]))⟩)
  refine(CL _ _ c.value d.value (by omega) (λt ht=>by have:=cI l4 t ht;omega)).call (λe2=>⟨_,rfl,ab.t rfl ?_⟩) (λaT=>⟨_,rfl,ab.f rfl (aZ.no λe=>aT (by rw[e]))⟩)
  refine(ih .sh .sh c.conds d.conds hs h6 l5).call (λe3=>⟨_,rfl,aZ.yes (yx (by simpa using h1) (by simpa using h2) (bI.1 h3) e1 e2 (by simpa using h4) e3)⟩) (λaT=>⟨_,rfl,aZ.no λe=>aT (by rw[e])⟩)
 ·subst e;simp at h
 ·subst e;rw[dX]at h;cases h
 ·subst e;simp at h
 ·subst e;simp at h
theorem Mq:∀(n:Nat) (f g:Fl) (l m:List ae),aj l<=n->aj l<=1000000->bD l->aZ 83 [.list 7 f (l.map ae.pv),.list 7 g (m.map ae.pv)] (l=m):=by
 intro n
 induction n with
 |zero=>
  intro f g l m h _ _
  have:l=[]:=by
   cases l with
   |nil=>rfl
   |cons c l=>simp[aj,bM]at h
  subst this
  refine ao.of (fF.c (ab.mk (λh=>aZ.no (i_ h)) (λh=>?_)))
  refine fE (l:=[]) (m:=m) (n:=0) rfl (ix h) (by omega) (λk hk=>by simp at hk) (λu next e=>ab.f (by simp) (aZ.yes e))
 |succ n ih=>
  intro f g l m h h6 hl
  have sM:=ch l
  refine ao.of (fF.c (ab.mk (λh=>aZ.no (i_ h)) (λh=>?_)))
  refine fE (l:=l) (m:=m) (n:=l.length) rfl (ix h) (by omega) (λk hk bW u next hy cm=>?_) (λu next e=>ab.f (by simp) (aZ.yes e))
  have hm:=eM (getElem_mem hk)
  refine ab.t (by simpa using hk) ⟨by omega,_,aw hk,_,_,_,_,_,_,_,_,_,_,iI _,by omega,_,aw bW,_,_,_,_,_,_,_,_,_,_,iI _,?_⟩
  refine(Mr n ih l[k] m[k] (by omega) (by omega) (bH.1 hl _ (getElem_mem hk))).call (λe=>⟨_,rfl,ab.f rfl (hy e _)⟩) (λaT=>⟨_,rfl,ab.t rfl (aZ.no (cm aT))⟩)
theorem rh(f:Fl)(l:List af)(n:Nat)(OK:n<=1000000):ao prog 69 [.list 12 f (l.map af.pv),pI (n:Nat)] λp=>∃q:Bool,p=pB q/\(q=true->l.length<=n):=by
 refine ao.of (cB.c (ab.mk (λh=>⟨false,rfl,λh=>by cases h⟩) (λh=>?_)))
 have hn:l.length<=n:=by simpa using h
 refine ak.each (n:=l.length) (by omega) (λ_ _=>True) trivial (λk u next hk _ ar=>?_) (λu next _=>ab.f (by simp) ⟨true,rfl,λ_=>hn⟩)
 refine ab.t (by simpa using hk) ⟨by omega,_,aw hk,_,rfl,ab.mk (λ_=>⟨false,rfl,λh=>by cases h⟩) (λ_=>⟨by omega,_,aw hk,_,rfl,ab.mk (λ_=>⟨false,rfl,λh=>by cases h⟩) (λ_=>⟨by omega,_,aw hk,_,rfl,ab.mk (λ_=>⟨false,rfl,λh=>by cases h⟩) (λ_=>ar _ trivial)⟩)⟩)⟩
theorem lE(f:Fl)(l:List af)(n:Nat)(OK:n<=1000000):ao prog 16 [.list 12 f (l.map af.pv),pI (n:Nat)] λp=>∃q:Bool,p=pB q/\(q=true->l.length<=n):=by
 refine ao.of (cD.c ?_)
 exact(rh f l n OK).call λp ⟨q,e,h⟩=>⟨q,e,q,rfl,h⟩
def cN(T:Tree)(p:Path):Nat:=(T.D.filter λq=>decide (p <+: q)).length
theorem oB.EH{T:Tree}(h:oB T){p:Path}(hp:p∈T.D):cN T p=1+((T.K p).map λc=>cN T (p++[c])).sum:=by
 have e:(1+((T.K p).map λc=>cN T (p++[c])).sum)=(p::(T.K p).flatMap λc=>T.D.filter λq=>decide ((p++[c]) <+: q)).length:=by
  rw[List.length_cons,List.length_flatMap,Nat.add_comm];rfl
 rw[e]
 unfold cN
 refine qb (h.nodup.filter _) ?_ λq=>?_
 ·refine List.nodup_cons.2 ⟨λhm=>?_,?_⟩
  ·obtain⟨c,_,hc⟩:=List.mem_flatMap.1 hm
   have:=(List.mem_filter.1 hc).2
   have cZ:(p++[c]) <+: p:=by simpa using this
   have h9:=cZ.length_le
   rw[List.length_append,List.length_singleton]at h9
   omega
  ·have hk:=h.Bt p hp
   generalize T.K p=K at hk
   induction K with
   |nil=>exact List.nodup_nil
   |cons c K ih=>
    obtain⟨h1,h2⟩:=List.nodup_cons.1 hk
    rw[List.flatMap_cons]
    refine List.nodup_append.2 ⟨h.nodup.filter _,ih h2,λa ha b hb e=>?_⟩
    subst e
    obtain⟨c',rI,iK⟩:=List.mem_flatMap.1 hb
    have q1:(p++[c]) <+: a:=by simpa using(List.mem_filter.1 ha).2
    have q2:(p++[c']) <+: a:=by simpa using(List.mem_filter.1 iK).2
    have e2:p++[c]=p++[c']:=by
     rcases List.prefix_or_prefix_of_prefix q1 q2 with h3|h3
     ·exact h3.eq_of_length (by simp)
     ·exact(h3.eq_of_length (by simp)).symm
    have:c=c':=by simpa using e2
    exact h1 (this▸rI)
 ·rw[List.mem_filter,List.mem_cons,List.mem_flatMap]
  constructor
  ·rintro⟨hq,cZ⟩
   by_cases e:q=p
   ·exact .inl e
   ·obtain⟨c,hc,h2⟩:=(h.below hp hq).1 ⟨by simpa using cZ,e⟩
    exact .inr ⟨c,hc,List.mem_filter.2 ⟨hq,by simpa using h2⟩⟩
  ·rintro(rfl|⟨c,hc,hm⟩)
   ·exact⟨hp,by simp⟩
   ·obtain⟨hq,h2⟩:=List.mem_filter.1 hm
    have h2:(p++[c]) <+: q:=by simpa using h2
    exact⟨hq,by simpa using((List.prefix_append p [c]).trans h2)⟩
theorem lp(T:Tree):cN T []=T.D.length:=by
 unfold cN
 rw[List.filter_eq_self.2 λq _=>by simp]
theorem re(T:Tree)(p:Path):cN T p<=T.D.length:=List.length_filter_le _ _
section
variable {T:Tree} {fr:Path->List cf} {mn:Path->List Nat}
theorem wD(h:oB T){tk:Path->List cf}{ct:Path->List Nat}:∀(n:Nat) (p:Path),p∈T.D->17-p.length<=n->∀{L:List aY} {μ:Mem},Ow (cb T tk ct fr mn::L) μ->∀{K:Kq},(∀μ',Ow (cb T tk ct fr mn::L) μ'->K (pI ((cN T p-1:Nat):Int)) μ')->aa prog 82 [pP (T.B p) 0] μ K:=by
 intro n
 induction n with
 |zero=>intro p hp hn;have:=h.len p hp;omega
 |succ n ih=>
  intro p hp hn L μ hO K hk
  have ui:=h.Bg
  obtain⟨F,hF⟩:=cb.rd hp hO
  have HQ:=h.EH hp
  have hle:=re T p
  have dQ:∀i,(((T.K p).take i).map λc=>cN T (p++[c])).sum<=((T.K p).map λc=>cN T (p++[c])).sum:=λi=>by
   conv=>rhs;rw[<- List.take_append_drop i (T.K p)]
   rw[List.map_append,List.sum_append];omega
  have ED:=h.kl hp
  refine gJ.c ⟨_,_,_,aE hF (by simp),?_⟩
  refine ak.dm (n:=(T.K p).length) (by omega) (λi s u=>s=(((((T.K p).take i).map λc=>cN T (p++[c])).sum:Nat):Int)/\Ow (cb T tk ct fr mn::L) u) ⟨by simp,hO⟩ ?_ ?_
  ·rintro i s u next hi ⟨rfl,h2⟩ ar
   have po:=h.HE hp hi
   obtain⟨b,hb,fB⟩:=cb.Zn hp h2 hi
   dsimp only[gK]
   rw[hb]
   refine ab.t (by simpa using hi) ⟨by omega,by simpa using hi,_,?_,ih _ po (by simp;omega) h2 λu' h3=>⟨_,rfl,ar _ _ ⟨?_,h3⟩⟩⟩
   ·simpa using fB
   ·have h4:=dQ (i+1)
    have h5:(((T.K p).take (i+1)).map λc=>cN T (p++[c])).sum=(((T.K p).take i).map λc=>cN T (p++[c])).sum+cN T (p++[(T.K p)[i]]):=by
     rw[dT hi,List.sum_append];simp
    have h6:=h.EH po
    have w1:wrap .i64 ((((((T.K p).take i).map λc=>cN T (p++[c])).sum:Nat):Int)+1)=(((((T.K p).take i).map λc=>cN T (p++[c])).sum:Nat):Int)+1:=az (by omega) (by omega)
    rw[w1,az (by omega) (by omega)]
    omega
  ·rintro s u next ⟨rfl,h2⟩
   refine ab.f (by simp) ?_
   have:=hk u h2
   rw[List.take_length]
   rw[show cN T p-1=((T.K p).map λc=>cN T (p++[c])).sum from by omega]at this
   exact this
end
def cS(es:List af)(ps:List Prod):Nat:=bz (ps.flatMap λq=>jl es q.conds)
section
variable {n:Nat} {x:NC} {es:List af} {ps:List Prod} {w:Nat}
theorem pd.nB{ms:dL}{ids:pt}{T:Tree}{tk:Path->List cf}{ct:Path->List Nat}(h:pd x T es ms ids tk ct ps w (λ_=>False)):∀r,r∈T.D/\r≠[]↔r≠[]/\∃p∈ps,r <+: p.conds:=by
 have key:∀(m:Nat) (r:Path),r∈T.D->r≠[]->17-r.length<=m->∃p∈ps,r <+: p.conds:=by
  intro m
  induction m with
  |zero=>intro r hr _ hm;have:=h.core.tree.len r hr;omega
  |succ m ih=>
   intro r hr AP hm
   rcases h.uf r hr AP (λh=>h)with hk|he
   ·cases hK:T.K r with
    |nil=>exact absurd hK hk
    |cons d l=>
     have hd:r++[d]∈T.D:=(h.core.tree.kids r hr d).1 (by rw[hK];simp)
     obtain⟨p,hp,cZ⟩:=ih (r++[d]) hd (by simp) (by simp;omega)
     exact⟨p,hp,List.IsPrefix.trans (List.prefix_append _ _) cZ⟩
   ·rw[h.ends r hr]at he
    obtain⟨p,hp⟩:=List.exists_mem_of_length_pos he
    obtain⟨h1,h2⟩:=List.mem_filter.1 hp
    have h2:p.conds=r:=by simpa using h2
    exact⟨p,h1,by rw[h2];exact List.prefix_refl _⟩
 intro r
 constructor
 ·rintro⟨h1,h2⟩
  exact⟨h2,key 17 r h1 h2 (by omega)⟩
 ·rintro⟨h2,p,hp,cZ⟩
  exact⟨h.core.tree.xR (h.pD p hp) cZ,h2⟩
theorem mS{L:List aY}{μ:Mem}(hO:Ow (bR n x es ps w::L) μ){K:Kq}(hk:∀D:List Path,D.Nodup->(∀r,r∈D↔r≠[]/\∃p∈ps,r <+: p.conds)->∀μ',Ow (bR n x es ps w::L) μ'->K (pI ((D.length:Nat):Int)) μ'):aa prog 32 [pP n 0] μ K:=by
 obtain⟨T,ms,ids,tk,ct,fr,mn,⟨hR,dQ⟩,h1⟩:=bR.open_ hO
 have EY:=hR.core.tree.root
 refine ee.c ⟨_,aE (an.qz (x:=x) (es:=es) (ms:=ms) (ids:=ids) h1 (by simp)) (by simp),?_⟩
 rw[hR.root]
 refine wD hR.core.tree 17 [] EY (by simp) (Ow.ord [1] h1) λu h2=>⟨_,rfl,?_⟩
 have hlen:cN T []-1=(T.D.filter λr=>decide (r≠[])).length:=by
  rw[lp]
  obtain⟨A,B,e⟩:=List.append_of_mem EY
  rw[ni hR.core.tree e,e]
  simp
 rw[hlen]
 refine hk _ (hR.core.tree.nodup.filter _) (λr=>?_) u (bR.shut hR dQ (Ow.ord [1] h2))
 rw[<- hR.nB r,List.mem_filter]
 simp
theorem rf(hw:w<=1000){L:List aY}{μ:Mem}(hO:Ow (bR n x es ps w::L) μ){K:Kq}(hk:∀μ',Ow (bR n x es ps w::L) μ'->K (pI ((cS es ps:Nat):Int)) μ'):aa prog 49 [pP n 0] μ K:=by
 obtain⟨T,ms,ids,tk,ct,fr,mn,⟨hR,dQ⟩,h1⟩:=bR.open_ hO
 have ow:ps.length<=1000:=Nat.le_trans hR.xt hw
 refine eP.c λb3 DB=>?_
 refine(h1.new 3 [pI 0] DB).st 0 rfl (by simp) λu h=>?_
 refine⟨_,aE (an.qz (x:=x) (es:=es) (ms:=ms) (ids:=ids) h (by simp)) (by simp),(RP.o_ x.pr).call ⟨_,_,_,rfl,?_⟩⟩
 have nR:((ps.map (fZ T.B)).map λy=>[RP.db y.1,RP.gI y.2]).length=ps.length:=by simp
 refine bk.own (RP.fG x.pr (ps.map (fZ T.B)) (by simp;omega)) (Ow.at 3 rfl h)
  (λk u=>Ow (dc n x es ms ids T tk ct fr mn ps (Pt b3 3 [pI ((cS es (ps.take k):Nat):Int)]::L)) u) (λ_ _=>False) (λk=>fJ.own _) (λ_ _ _ _ h=>h.elim) (λμ' h'=>?_) ?_ ?_ (λ_ _ h=>h.elim)
 ·have h2:Ow (RP.cU x.pr (ps.map (fZ T.B))::Pt b3 3 [pI 0]::an n x es ms ids::cb T tk ct fr mn::RT.At x.el es::L) μ':=h'
  exact Ow.ord [2,2,0,1,0] h2
 ·rintro k fH u2 R h2 bU _
  have bW:k<ps.length:=by simpa using fH
  have hm:=getElem_mem bW
  have hD:=hR.pD _ hm
  obtain⟨_,_,_,_,_,g1,g2⟩:=(hR.rE _ hm).facts
  rw[List.getElem_map,List.getElem_map]
  refine⟨_,_,_,_,_,_,_,_,rfl,?_⟩
  have RG:((dE T.B ps[k].conds).map λb=>[pP b 0]).length=ps[k].conds.length:=by rw[length_map,dC]
  dsimp only[fZ]
  refine ak.each (n:=ps[k].conds.length) (by omega) (λi u=>Ow (dc n x es ms ids T tk ct fr mn ps (Pt b3 3 [pI ((max (cS es (ps.take k)) (bz ((List.range i).flatMap λi=>cQ es (ps[k].conds.take (i+1)))):Nat):Int)]::L)) u) ?_ ?_ ?_
  ·have:max (cS es (ps.take k)) (bz ((List.range 0).flatMap λi=>cQ es (ps[k].conds.take (i+1))))=cS es (ps.take k):=by simp[bz]
   rw[this];exact h2
  ·rintro i u3 next hi h3 ar
   have DE:ps[k].conds.take (i+1)∈T.D:=hR.core.tree.xR hD (List.take_prefix _ _)
   have ep:ps[k].conds.take (i+1)=ps[k].conds.take i++[ps[k].conds[i]]:=by rw[List.take_add_one,List.getElem?_eq_getElem hi];rfl
   obtain⟨F,hF⟩:=cb.rd DE (Ow.swap h3)
   refine ab.t (by simpa[dC]using hi) ⟨by omega,_,sg T.B _ hi,_,rfl,?_⟩
   dsimp only[nP,nn,aF]
   have XZ:ct (ps[k].conds.take (i+1))=cQ es (ps[k].conds.take (i+1)):=by
    rw[ep]at DE |-
    rw[hR.core.dH.EH _ _ DE,dY]
   have fB:aB u3 (T.B (ps[k].conds.take (i+1))) (0+10) 1=some [.list 1 F.k ((cQ es (ps[k].conds.take (i+1))).map jv)]:=by
    have:=aE (o:=0+10) (n:=1) hF (by simp)
    dsimp only[gK]at this
    rw[XZ]at this
    exact this
   refine⟨_,_,fB,?_⟩
   have iV:(cQ es (ps[k].conds.take (i+1))).length<=1000:=by
    rw[ep,dY]
    unfold je
    rw[length_map,List.length_range]
    rw[ep]at DE
    have:=(hR.core.tree.LB DE).2
    omega
   generalize mR:cQ es (ps[k].conds.take (i+1))=cs at*
   generalize hmx:max (cS es (ps.take k)) (bz ((List.range i).flatMap λi=>cQ es (ps[k].conds.take (i+1))))=mx at*
   refine ak.each (n:=cs.length) (by omega) (λj u=>Ow (dc n x es ms ids T tk ct fr mn ps (Pt b3 3 [pI ((max mx (bz (cs.take j)):Nat):Int)]::L)) u) ?_ ?_ ?_
   ·have:max mx (bz (cs.take 0))=mx:=by simp[bz]
    rw[this];exact h3
   ·rintro j u4 iJ hj h4 gu
    have eT:(cs.map jv)[toNat (j:Int)]?=some [pI ((cs[j]:Nat):Int)]:=by
     rw[Int.toNat_natCast,List.getElem?_map,List.getElem?_eq_getElem hj];rfl
    refine ab.t (by simpa using hj) ⟨by omega,_,eT,_,rfl,_,h4.rd 4 rfl (by simp),?_⟩
    refine h4.st 4 rfl (by simp) λu5 h5=>gu _ ?_
    have e:dN [pI ((max mx (bz (cs.take j)):Nat):Int)] 0 [pI (if((cs[j]:Nat):Int)>((max mx (bz (cs.take j)):Nat):Int)then((cs[j]:Nat):Int)else((max mx (bz (cs.take j)):Nat):Int))]=[pI ((max mx (bz (cs.take (j+1))):Nat):Int)]:=by
     have e1:bz (cs.take (j+1))=max (bz (cs.take j)) cs[j]:=by
      rw[List.take_add_one,List.getElem?_eq_getElem hj,cl]
      show max _ (bz [cs[j]])=_
      rw[jZ]
     rw[e1]
     show[pI _]=_
     congr 2
     split<;>omega
    rw[e]at h5
    exact h5
   ·rintro u4 iJ h4
    rw[List.take_length]at h4
    refine ab.f (by simp) (ar _ ?_)
    have e:max (cS es (ps.take k)) (bz ((List.range (i+1)).flatMap λi=>cQ es (ps[k].conds.take (i+1))))=max mx (bz cs):=by
     rw[List.range_succ,List.flatMap_append,cl,<- hmx]
     simp only[List.flatMap_cons,List.flatMap_nil,List.append_nil,mR]
     omega
    rw[e];exact h4
  ·rintro u3 next h3
   refine ab.f (by simp[dC]) (bU _ ?_)
   have e:cS es (ps.take (k+1))=max (cS es (ps.take k)) (bz ((List.range ps[k].conds.length).flatMap λi=>cQ es (ps[k].conds.take (i+1)))):=by
    unfold cS
    rw[zL bW,cl];rfl
   rw[e];exact h3
 ·intro u2 h2
  rw[nR,List.take_length]at h2
  dsimp only[PK]
  refine⟨_,h2.rd 4 rfl (by simp),hk u2 (bR.shut (fr:=fr) (mn:=mn) hR dQ ?_)⟩
  exact h2.tail λ_ h=>h.tail λ_ h=>h.tail λ_ h=>h.tail λ_ h=>h.drop
end
open K6
theorem OR(c:ae)(b:List aK.Bind):(jQ [] c b).length<=1:=by
 rw[iQ]
 have h:aN c b []=[]:=rfl
 rw[h]
 repeat' split
 all_goals simp
theorem KG{rows:List (List aK.Bind)}(h:rows.length<=1)(c:ae):(rows.flatMap λb=>jQ [] c b).length<=1:=by
 cases rows with
 |nil=>simp
 |cons a r=>
  have hr:r=[]:=List.length_eq_zero_iff.1 (by simpa using h)
  subst hr
  have:=OR c a
  simpa using this
mutual
theorem acv:∀(c:ae) (b:List aK.Bind) (j:Nat),cC [] c b j<=1
 |c,b,0=>by rw[pb];exact OR c b
 | .mk k g i a v ac cs,b,j+1=>by
   rw[tV]
   split
   ·omega
   ·exact Nn cs [b] j (by simp)
theorem Nn:∀(cs:List ae) (rows:List (List aK.Bind)) (j:Nat),rows.length<=1->cL [] cs rows j<=1
 |[],_,_,_=>by simp[cL]
 |c::cs,rows,j,h=>by
  simp only[cL]
  split
  ·cases rows with
   |nil=>simp
   |cons a r=>
    have hr:r=[]:=List.length_eq_zero_iff.1 (by simpa using h)
    subst hr
    have:=acv c a j
    simpa using this
  ·exact Nn cs _ _ (KG h c)
end
theorem Qd{B:Int}(hB:1<=B)(l:List ae):¬du B [] l:=by
 rw[<- Hr (by omega) l]
 rintro⟨j,h⟩
 have:=Nn l [[]] j (by simp)
 omega
theorem Oo:∀(cs:List ae) (rows:List (List aK.Bind)),rows.length<=1->(kD [] cs rows).length<=1
 |[],_,h=>h
 |c::cs,rows,h=>by
  simp only[kD]
  exact Oo cs _ (KG h c)
theorem PA(l:List ae):(au [] l).length<=1:=by
 have:=Oo l [[]] (by simp)
 rw[<- oH,length_map]at this
 exact this
theorem So(ps:List Prod):bK [] ps<=ps.length:=by
 unfold bK
 induction ps with
 |nil=>simp
 |cons p ps ih=>
  have:=PA p.conds
  simp only[List.map_cons,List.sum_cons,List.length_cons]
  omega
theorem ns{α:Type}(f:α->Nat)(p:α->Bool):∀l:List α,((l.filter p).map f).sum<=(l.map f).sum
 |[]=>Nat.le_refl _
 |x::l=>by
  have:=ns f p l
  rw[List.filter_cons]
  split<;>simp only[List.map_cons,List.sum_cons]<;>omega
theorem Cq{es:List af}{A P:List Prod}(hA:ca aI cM A)(hP:ca aI cM P)(h:∀q∈A,q∈P):bK es A<=bK es P:=by
 classical
 have e:A=P.filter λq=>decide (q∈A):=ca.ext aP hA (hP.filter _) λq=>by
  rw[List.mem_filter,decide_eq_true_eq]
  exact⟨λhq=>⟨h q hq,hq⟩,λhq=>hq.2⟩
 rw[e]
 unfold bK
 exact ns _ _ _
theorem sH{α:Type}{a b:List α}(ha:a.Nodup)(hb:b.Nodup)(h:∀x,x∈a↔x∈b):a.length=b.length:=((List.perm_ext_iff_of_nodup ha hb).2 h).length_eq
theorem zb{T:Type}{ck:T->T->Int}(hc:oF ck){U:Type}{key:U->T}{l:List U}(h:ca ck key l){a b:U}(ha:a∈l)(hb:b∈l)(e:key a=key b):a=b:=by
 have h1:=(aM hc h (k:=key a) (x:=a)).2 ⟨ha,rfl⟩
 have h2:=(aM hc h (k:=key a) (x:=b)).2 ⟨hb,e.symm⟩
 rw[h1]at h2;exact Option.some.inj h2
theorem vz(f g:Fl)(l m:List Int)(hl:l.length<=1000000000):aZ 77 [.list 1 f (l.map gz),.list 1 g (m.map gz)] (l=m):=by
 refine ao.of (dK.c (ab.mk (λh=>aZ.no (i_ h)) (λh=>?_)))
 refine fE (l:=l) (m:=m) (n:=l.length) rfl (ix h) (by omega) (λk hk bW u next hy cm=>?_) (λu next e=>ab.f (by simp) (aZ.yes e))
 exact ab.t (by simpa using hk) ⟨by omega,_,aw hk,_,rfl,by omega,_,aw bW,_,rfl,ab.mk (λh=>aZ.no (cm λe=>by rw[e]at h;simp at h)) (λh=>hy (by simpa using h) _)⟩
theorem JS{a b:Mt}(h1:a.name=b.name)(h2:a.tags=b.tags):a=b:=by cases a;cases b;simp_all
theorem sw(f g:Fl)(l m:List Mt)(hl:l.length<=1000000000)(ht:∀x∈l,x.tags.length<=1000000000):aZ 29 [.list 2 f (l.map Mt.pv),.list 2 g (m.map Mt.pv)] (l=m):=by
 refine ao.of (eJ.c (ab.mk (λh=>aZ.no (i_ h)) (λh=>?_)))
 refine fE (l:=l) (m:=m) (n:=l.length) rfl (ix h) (by omega) (λk hk bW u next hy cm=>?_) (λu next e=>ab.f (by simp) (aZ.yes e))
 refine ab.t (by simpa using hk) ⟨by omega,_,aw hk,_,rfl,by omega,_,aw bW,_,rfl,ab.mk (λh=>aZ.no (cm λe=>?_)) (λh=>⟨by omega,_,aw hk,_,_,rfl,by omega,_,aw bW,_,_,rfl,?_⟩)⟩
 ·rw[e,dX]at h;cases h
 ·have hn:l[k].name=m[k].name:=bI.1 (nt h)
  exact(vz .sh .sh _ _ (ht _ (getElem_mem hk))).call (λe=>⟨_,rfl,ab.f rfl (hy (JS hn e) _)⟩) (λaT=>⟨_,rfl,ab.t rfl (aZ.no (cm λe=>aT (by rw[e])))⟩)
theorem VR{a b:dh}:(aJ a.id b.id&&(aJ a.attr.var b.attr.var&&((a.attr.sym.k == b.attr.sym.k)&&(aJ a.attr.sym.t b.attr.sym.t&&((a.attr.sym.n == b.attr.sym.n)&&((a.value.op == b.value.op)&&(aJ a.value.a.var b.value.a.var&&((a.value.a.sym.k == b.value.a.sym.k)&&(aJ a.value.a.sym.t b.value.a.sym.t&&((a.value.a.sym.n == b.value.a.sym.n)&&(aJ a.value.b.var b.value.b.var&&((a.value.b.sym.k == b.value.b.sym.k)&&(aJ a.value.b.sym.t b.value.b.sym.t&&((a.value.b.sym.n == b.value.b.sym.n)&&((a.sy == b.sy)&&(aJ a.other.var b.other.var&&((a.other.sym.k == b.other.sym.k)&&(aJ a.other.sym.t b.other.sym.t&&((a.other.sym.n == b.other.sym.n)&&true)))))))))))))))))))=true↔a=b:=by
 obtain⟨a0,⟨a1,a2,a3,a4⟩,⟨a5,⟨a6,a7,a8,a9⟩,⟨a10,a11,a12,a13⟩⟩,a14,⟨a15,a16,a17,a18⟩⟩:=a
 obtain⟨b0,⟨b1,b2,b3,b4⟩,⟨b5,⟨b6,b7,b8,b9⟩,⟨YK,wE,b12,Ef⟩⟩,b14,⟨b15,b16,b17,b18⟩⟩:=b
 simp[bI,and_assoc]
theorem aem(f g:Fl)(l m:List dh)(hl:l.length<=1000000000):aZ 123 [.list 19 f (l.map dh.pv),.list 19 g (m.map dh.pv)] (l=m):=by
 refine ao.of (yV.c (ab.mk (λh=>aZ.no (i_ h)) (λh=>?_)))
 refine fE (l:=l) (m:=m) (n:=l.length) rfl (ix h) (by omega) (λk hk bW u next hy cm=>?_) (λu next e=>ab.f (by simp) (aZ.yes e))
 refine ab.t (by simpa using hk) ⟨by omega,_,aw hk,_,_,_,_,_,_,_,_,_,_,_,_,_,_,_,_,_,_,_,rfl,by omega,_,aw bW,_,_,_,_,_,_,_,_,_,_,_,_,_,_,_,_,_,_,_,rfl,ab.mk (λh=>aZ.no (cm λe=>?_)) (λh=>hy (VR.1 (nt h)) _)⟩
 have:=nb h
 rw[VR.2 e]at this;cases this
theorem Xd{a b:Prod}(h1:a.name=b.name)(h2:a.conds=b.conds)(h3:a.bp=b.bp):a=b:=by cases a;cases b;simp_all
theorem ael(f1 f2 f3 f4:Fl)(p q:Prod)(hl:bD p.conds)(hs:aj p.conds<=1000000)(ha:p.bp.length<=1000000):aZ 62 [.agg [pS p.name,.list 7 f1 (p.conds.map ae.pv),.list 19 f2 (p.bp.map dh.pv)],.agg [pS q.name,.list 7 f3 (q.conds.map ae.pv),.list 19 f4 (q.bp.map dh.pv)]] (p=q):=by
 refine ao.of (yU.c (ab.mk (λh1=>?_) (λh=>aZ.no λe=>?_)))
 ·refine(Mq _ f1 f3 p.conds q.conds (Nat.le_refl _) hs hl).call (λe1=>⟨_,rfl,ab.t rfl ?_⟩) (λaT=>⟨_,rfl,ab.f rfl (aZ.no λe=>aT (by rw[e]))⟩)
  exact(aem f2 f4 p.bp q.bp (by omega)).call (λe2=>⟨_,rfl,aZ.yes (Xd (bI.1 h1) e1 e2)⟩) (λaT=>⟨_,rfl,aZ.no λe=>aT (by rw[e])⟩)
 ·rw[e,dX]at h;cases h
theorem aaO(f g:Fl)(l m:List Prod)(hl:l.length<=1000000)(hp:∀p∈l,bD p.conds/\aj p.conds<=1000000/\p.bp.length<=1000000):aZ 64 [.list 3 f (l.map Prod.pv),.list 3 g (m.map Prod.pv)] (l=m):=by
 refine ao.of (wX.c (ab.mk (λh=>aZ.no (i_ h)) (λh=>?_)))
 refine fE (l:=l) (m:=m) (n:=l.length) rfl (ix h) (by omega) (λk hk bW u next hy cm=>?_) (λu next e=>ab.f (by simp) (aZ.yes e))
 obtain⟨h1,h2,h3⟩:=hp _ (getElem_mem hk)
 refine ab.t (by simpa using hk) ⟨by omega,_,aw hk,_,_,_,_,_,rfl,by omega,_,aw bW,_,_,_,_,_,rfl,?_⟩
 exact(ael .sh .sh .sh .sh l[k] m[k] h1 h2 h3).call (λe=>⟨_,rfl,ab.f rfl (hy e _)⟩) (λaT=>⟨_,rfl,ab.t rfl (aZ.no (cm aT))⟩)
theorem qS{p:Prod}(h:lb p):kO p:=⟨h.1,by have:=h.2.1;omega,by have:=h.2.2.1;omega⟩
theorem iz(f:Fl)(ps:List Prod)(n:Nat)(hn:n<=1000000):ao prog 30 [.list 3 f (ps.map Prod.pv),pI (n:Nat)] λv=>∃q:Bool,v=pB q/\(q=false->ps.length<=n/\∀p∈ps,kO p):=by
 refine ao.of (cG.c (ab.mk (λ_=>⟨true,rfl,λh=>by cases h⟩) (λh=>?_)))
 have hl:ps.length<=n:=by simpa using h
 refine ak.each (n:=ps.length) (by omega) (λk _=>∀p∈ps.take k,kO p) (by simp) (λk u next hk hI ar=>?_) (λu next hI=>ab.f (by simp) ⟨false,rfl,λ_=>⟨hl,by rwa [List.take_length]at hI⟩⟩)
 refine ab.t (by simpa using hk) ⟨by omega,_,aw hk,_,_,_,_,_,rfl,(wy .sh .sh ps[k]).call ?_⟩
 rintro _ ⟨q,rfl,hq⟩
 refine⟨_,rfl,ab.mk (λ_=>⟨true,rfl,λh=>by cases h⟩) (λhf=>ar _ λp hp=>?_)⟩
 rcases(dg hk).1 hp with hp|rfl
 ·exact hI p hp
 ·exact qS (hq hf)
theorem acj{fn:Fn}{a b:List PV}{A:aY}{l:List Prod}(hs:Ag prog (.fn fn a b) (l.map λp=>[.agg p.pv]) A)(hl:l.length<=1000000){L:List aY}{μ:Mem}(hO:Ow (A::L) μ){K:Kq}(hk:∀f μ',Ow (A::L) μ'->K (.list 3 f (l.map Prod.pv)) μ'):
  aa prog 65 [.fn fn a b] μ K:=by
 refine og.c λb3 DB=>?_
 have O1:=lU.new (hO.new 43 [.list 3 .nil []] DB)
 refine bk.aen hs (Ow.swap O1) (λk u=>Ow (lU b3 43 3 ((l.take k).map Prod.pv)::L) u) (λ_ _=>False) (λk=>fJ.own _) (λ_ _ _ _ h=>h.elim) (λμ' h'=>h') ?_ ?_ (λc u h=>?_)
 ·rintro k fH u R h2 bU _
  have bW:k<l.length:=by simpa using fH
  rw[List.getElem_map]
  refine⟨_,_,_,_,_,rfl,?_⟩
  refine lU.go 0 h2 rfl (by simp;omega) (by simp;omega) λu4 h4=>bU _ ?_
  rw[dT bW];exact h4
 ·intro u h
  rw[length_map]at h
  have h2:Ow (A::lU b3 43 3 ((l.take l.length).map Prod.pv)::L) u:=h.tail λ_ h=>h.Xj
  rw[List.take_length]at h2
  obtain⟨f,hf⟩:=lU.rd 1 h2 rfl
  dsimp only[PK]
  exact⟨_,_,hf,hk f u (h2.tail λ_ h=>h.drop)⟩
 ·obtain⟨_,_,_,_,_,_,_,_,_,h,_⟩:=h
  exact h.elim
theorem td(f1 f2:Fl)(ps:List Prod)(es:List af):ao prog 36 [.list 3 f1 (ps.map Prod.pv),.list 12 f2 (es.map af.pv)] λv=>∃q:Bool,v=pB q/\(q=true->oR ps 6/\es.length<=30):=by
 refine ao.of (eW.c ?_)
 refine(iz f1 ps 6 (by omega)).call ?_
 rintro _ ⟨q,rfl,hq⟩
 refine⟨_,rfl,ab.mk (λhf=>?_) (λ_=>⟨false,rfl,λh=>by cases h⟩)⟩
 refine(lE f2 es 30 (by omega)).call ?_
 rintro _ ⟨q2,rfl,Gr⟩
 exact⟨_,rfl,_,rfl,λht=>⟨hq (nb hf),Gr ht⟩⟩
set_option maxRecDepth 100000
section
variable {w:World}
theorem jq:prog.cellsOf 78=12:=by kernel_rfl
theorem ph(n:Nat)(cs:List Value)(h:Reads prog w n 78 cs):∃s:af,bF (gA w) s.pv cs/\True:=by
 obtain⟨m,rfl,hl,hf⟩:=h.struct underlying78
 rw[jq]at hl
 obtain⟨a,e0,_⟩:=kN _ _ (dR hf 0 0 jS rfl rfl rfl)
 obtain⟨b,e1,_⟩:=kN _ _ (dR hf 1 3 jS rfl rfl rfl)
 obtain⟨c,e2,_⟩:=kN _ _ (dR hf 2 6 jS rfl rfl rfl)
 obtain⟨i3,e3⟩:=(dR hf 3 9 lV rfl rfl rfl).pbool underlying4
 obtain⟨i4,e4⟩:=(dR hf 4 10 lV rfl rfl rfl).pbool underlying4
 obtain⟨i5,e5,_⟩:=(dR hf 5 11 sk rfl rfl rfl).CQ underlying3
 match cs,hl with
 |[x0,x1,x2,x3,x4,x5,x6,x7,x8,x9,Y_,x11],_=>exact⟨⟨a,b,c,_,_,_⟩,((((e0.append e1).append e2).append e3).append e4).append e5,trivial⟩
end
theorem bR.facts{n:Nat}{x:NC}{es:List af}{ps:List Prod}{w:Nat}{L:List aY}{μ:Mem}(h:Ow (bR n x es ps w::L) μ):((bK es ps:Nat):Int)<=x.M/\x.M<=1024/\ca aA aH es/\ca aI cM ps/\(∀q∈ps,l_ q)/\ps.length<=w:=by
 obtain⟨_,_,_,_,_,_,_,⟨hR,hs⟩,_⟩:=bR.open_ h
 exact⟨hs,hR.mb.2,hR.core.use.inv.ua,hR.si,hR.rE,hR.xt⟩
theorem iq{es:List af}(hn:xu es)(p:Prod):(eB es p).length=(au es p.conds).length:=by unfold eB;rw[length_map,gQ (dv hn _)]
theorem ko{es:List af}(hn:xu es)(ps:List Prod):(allM es ps).length=bK es ps:=by
 unfold allM bK
 rw[List.length_flatMap]
 congr 1
 exact List.map_congr_left λp _=>iq hn p
theorem la{es:List af}(hn:xu es){p:Prod}(hp:l_ p):∀m∈eB es p,m.tags.length<=1000:=by
 intro m hm
 obtain⟨t,ht,rfl⟩:=List.mem_map.1 hm
 have ht:=((fQ (dv hn p.conds)).2 t).1 ht
 rw[<- gC]at ht
 obtain⟨q,hq,rfl⟩:=List.mem_map.1 ht
 have h1:=jC (es:=es) (l:=p.conds) (ts:=[ub]) (m:=0) (by simp[ub]) q hq
 obtain⟨_,_,_,g4,_⟩:=hp.facts
 have:=ch p.conds
 show q.tags.length<=1000
 omega
theorem Ac{es:List af}(hn:xu es){ps:List Prod}(hp:∀q∈ps,l_ q):∀m∈allM es ps,m.tags.length<=1000000000:=by
 intro m hm
 obtain⟨p,h1,h2⟩:=List.mem_flatMap.1 hm
 have:=la hn (hp p h1) m h2
 omega
section
variable {n:Nat} {x:NC} {es:List af} {ps:List Prod} {w:Nat}
theorem Bk(hw:w<=1000){L:List aY}{μ:Mem}(hO:Ow (bR n x es ps w::L) μ){F:Kq}(hk:∀f μ',Ow (bR n x es ps w::L) μ'->F (.list 2 f ((allM es ps).map Mt.pv)) μ'):aa prog 23 [JH n] μ F:=by
 obtain⟨h1,h2,h3,_⟩:=bR.facts hO
 exact zW (l:=allM es ps) (BP hw) (by rw[ko (kM h3)];omega) hO hk
theorem SO(f g:Fl){L:List aY}{μ:Mem}(hO:Ow (bR n x es ps w::L) μ){l:List Mt}(e:allM es ps=l){F:Kq}(hF:F (pB true) μ):aa prog 29 [.list 2 f ((allM es ps).map Mt.pv),.list 2 g (l.map Mt.pv)] μ F:=by
 obtain⟨h1,h2,h3,_,h5,_⟩:=bR.facts hO
 have hl:=ko (kM h3) ps
 exact(sw f g _ _ (by omega) (Ac (kM h3) h5)).call (λ_=>hF) (λaT=>absurd e aT)
end
theorem iA.zero{B M:Int}{es:List af}{ps:List Prod}{add:List af}{drop:List Int}{kA:List af}(h:iA B M es ps add drop 0 kA):oC es add drop kA:=by
 cases h with
 |ok _ _ _ _ h4=>exact h4
section
variable {n:Nat} {x:NC} {es:List af} {ps:List Prod} {w:Nat}
@[reducible] def Hn(n:Nat):PV:=.fn (.func 125) [] [.bn [pP n 0] 0]
theorem Pb(n:Nat):Pure prog 66 [pP n 0] (Hn n):=ao.of (Ap.c rfl)
theorem PU(hw:w<=1000):Ag prog (Hn n) (ps.map λp=>[.agg p.pv]) (bR n x es ps w):=by
 refine Ag.mk λfy ya yb J S μ hy hO df=>?_
 show aa _ _ [.fn fy ya yb,.bn [pP n 0] 0] _ _
 obtain⟨T,ms,ids,tk,ct,fr,mn,⟨hR,dQ⟩,h1⟩:=bR.open_ hO
 have ow:ps.length<=1000:=Nat.le_trans hR.xt hw
 refine wL.c λb2 rU=>⟨_,rfl,?_⟩
 have O1:=h1.new 30 [.fn fy ya yb] rU
 dsimp only[nP,nn,aF]
 refine⟨_,aE (an.qz (x:=x) (es:=es) (ms:=ms) (ids:=ids) O1 (by simp)) (by simp),(RP.o_ x.pr).call ⟨_,_,_,rfl,?_⟩⟩
 have nR:((ps.map (fZ T.B)).map λy=>[RP.db y.1,RP.gI y.2]).length=ps.length:=by simp
 have shut:∀{u:Mem} {M:List aY},Ow (dc n x es ms ids T tk ct fr mn ps M) u->Ow (bR n x es ps w::M) u:=λh=>bR.shut hR dQ h
 refine bk.own (RP.fG x.pr (ps.map (fZ T.B)) (by simp;omega)) (Ow.ord [3] O1)
  (λi u=>Ow (dc n x es ms ids T tk ct fr mn ps [Pt b2 30 [.fn fy ya yb],J i]) u) (λcd u=>cd=.ret/\Ow [bR n x es ps w,S] u) (λi=>fJ.own _) (λcd=>fJ.and (fJ.own _)) (λμ' h'=>?_) ?_ ?_ ?_
 ·have h2:Ow (RP.cU x.pr (ps.map (fZ T.B))::Pt b2 30 [.fn fy ya yb]::an n x es ms ids::cb T tk ct fr mn::RT.At x.el es::[J 0]) μ':=h'
  exact Ow.ord [2,2,0,1,0] h2
 ·rintro i QD u R h2 bU kg
  have hi:i<ps.length:=by simpa using QD
  have aO:=hR.rE _ (getElem_mem hi)
  obtain⟨_,_,_,g4,g5,_,_⟩:=aO.facts
  rw[List.getElem_map,List.getElem_map]
  refine⟨_,_,_,_,_,_,_,_,rfl,_,_,_,h2.rd 4 rfl (by simp),?_⟩
  refine(Zg .sh .sh ps[i] (by omega) aO.qf (by omega)).q ⟨_,_,_,_,_,rfl,?_⟩
  rw[Mem.oM]
  have gV:∀ν,J i ν->bY prog (.fn fy ya yb) [.agg ps[i].pv] ν λv μ'=>(v=pB true/\Ow [J (i+1)] μ')\/(v=pB false/\Ow [S] μ'):=λν hν=>by
   have h:=df i (by rw[length_map];exact hi) ν hν
   rw[List.getElem_map]at h
   exact h
  refine Ow.va (Ow.ord [5] h2) gV λv u5 h5=>?_
  rcases h5.qB with⟨rfl,h6⟩|⟨rfl,h6⟩
  ·exact⟨_,rfl,ab.f rfl (bU _ (Ow.ord [1,1,1,1,1,0] h6))⟩
  ·refine⟨_,rfl,ab.t rfl (kg _ _ ⟨rfl,?_⟩)⟩
   have h7:Ow (dc n x es ms ids T tk ct fr mn ps [S]) u5:=(Ow.ord [1,1,1,1,1,0] h6).tail λ_ h=>h.tail λ_ h=>h.tail λ_ h=>h.tail λ_ h=>h.drop
   exact shut h7
 ·intro u h2
  rw[nR]at h2
  dsimp only[PK]
  rw[length_map]
  exact .inl (shut (h2.tail λ_ h=>h.tail λ_ h=>h.tail λ_ h=>h.tail λ_ h=>h.drop))
 ·rintro cd u ⟨rfl,h⟩
  exact .inr h
theorem Pd(hw:w<=1000){L:List aY}{μ:Mem}(hO:Ow (bR n x es ps w::L) μ){F:Kq}(hk:∀f μ',Ow (bR n x es ps w::L) μ'->F (.list 3 f (ps.map Prod.pv)) μ'):aa prog 65 [Hn n] μ F:=by
 obtain⟨_,_,_,_,_,h6⟩:=bR.facts hO
 exact acj (PU hw) (by omega) hO hk
end
theorem Xu{i n k:Nat}(hi:i<n)(hk:k<=n):(i+k) % n=if i+k<n then i+k else i+k-n:=by
 split
 ·rename_i h;exact Nat.mod_eq_of_lt h
 ·rename_i h
  rw[Nat.mod_eq_sub_mod (by omega)]
  exact Nat.mod_eq_of_lt (by omega)
theorem adX(a b:Nat):tmod (a:Int) (b:Int)=((a % b:Nat):Int):=rfl
theorem pO{ps:List Prod}(h:ca aI cM ps):ps.Nodup:=by
 refine h.imp λ{a b} uk e=>?_
 rw[e]at uk
 rw[aP.self]at uk;omega
theorem mj.ah5{B M:Int}{es:List af}{P A:List Prod}(hP:ca aI cM P)(hA:ca aI cM A){p:Prod}{e:Int}{A':List Prod}(h:mj B M es A p e A')(hp:p∈P)(eZ:∀q∈A,q∈P)(cm:p∉A)(aO:(cg p).2.1=0)(AR:¬du B es p.conds)(hs:((bK es P:Nat):Int)<=M):e=0/\A'=bc aI cM p A:=by
 have hn:aL aI cM p.name A=none:=(bx aP).2 λq hq e=>cm ((zb aP hP (eZ q hq) hp e)▸hq)
 refine h.uniq (.ok aO hn AR ?_)
 have h1:=Cq (es:=es) (hA.ins aP p) hP λq hq=>by
  rcases(bj aP).1 hq with rfl|⟨hq,_⟩
  ·exact hp
  ·exact eZ q hq
 have h2:=pX (es:=es) (nc (ck:=aI) (key:=cM) aP (L:=A) (x:=p) hn)
 have h3:bK es (p::A)=(au es p.conds).length+bK es A:=by unfold bK;simp
 omega
theorem iA.all{B M:Int}(hM:0<=M){add es:List af}(hu:ca aA aH es)(hp:es.Perm add)(hg:nU add){e:Int}{kA:List af}(h:iA B M [] [] add [] e kA):e=0/\kA=es:=by
 have hd:eN [] []:=⟨List.nodup_nil,by simp⟩
 have ha:fi [] add []:=⟨((hp.map aH).nodup_iff).1 (iO hu),by simp⟩
 have hN:oC [] add [] es:=⟨hu,λe=>by rw[hp.mem_iff];simp⟩
 cases h with
 |form h=>exact absurd hg h
 |none _ h=>exact absurd hd h
 |there _ _ h=>exact absurd ha h
 |dH _ _ _ _ _ h5=>obtain⟨q,hq,_⟩:=h5;cases hq
 |eK _ _ _ _ _ _ h6=>simp[bK]at h6;omega
 |ok _ _ _ _ h4=>exact⟨rfl,h4.uniq hN⟩
theorem KT(ps:List Prod)(_:(∀s∈ps,True)/\ps.length<=maxLen)(es:List af)(_:(∀s∈es,True)/\es.length<=maxLen)(GW:Int):Pure prog 12 [.list 3 .sh (ps.map Prod.pv),.list 12 .sh (es.map af.pv),pI GW] (pB true):=by
 refine ao.of (pF.c ?_)
 refine(td .sh .sh ps es).call ?_
 rintro _ ⟨q,rfl,hq⟩
 refine⟨_,rfl,ab.mk (λ_=>dS _) (λhf=>?_)⟩
 obtain⟨hp,he⟩:=hq (nt hf)
 refine tU .sh .sh (by omega) hp es (by omega) (L:=[]) trivial λn r x fw fW y u1 hT hM ht IY eZ hb h1=>⟨_,_,rfl,ab.f rfl ?_⟩
 refine KZ 200 400 h1 (λh=>absurd (by omega) h) λ_ m x2 u2 hT2 hM2 h2=>⟨_,_,rfl,ab.f rfl (ab.f rfl ?_)⟩
 obtain⟨dQ,_,hu,IV,TN,ow⟩:=bR.facts (Ow.ord [1] h2)
 obtain⟨f,h3⟩:=aW.open_ (Ow.ord [2] h2)
 have hlen:((y.ps.map Prod.pv).length:Nat)=fW.length:=by rw[length_map,hb.ps]
 have OF:y.ps.length=fW.length:=by rw[hb.ps]
 have anN:y.es.length<=40:=by rw[<- hb.es.length_eq];exact IY
 have TA:∀e∈y.es,(1<=e.tag/\e.tag<=40)/\jR e=true:=λe he=>ht e (hb.es.mem_iff.2 he)
 have iv:nU y.es:=λe he=>⟨(TA e he).2,(TA e he).1.1⟩
 have ew1:wrap .i64 ((((y.ps.map Prod.pv).length:Nat):Int)+1)=((fW.length+1:Nat):Int):=by rw[hlen,az (by omega) (by omega)];rfl
 have jw:dy GW (fW.length+1)<=fW.length:=by have:=jo GW (n:=fW.length+1) (by omega);omega
 refine⟨_,_,h3.rd 0 rfl (by simp),?_⟩
 rw[ew1]
 refine(nZ GW (fW.length+1) (by omega) (by omega)).call ⟨_,rfl,?_⟩
 generalize dy GW (fW.length+1)=kk at jw
 have Kg:∀q∈fW,¬du 200 fw q.conds:=λq hq ho=>by
  have h:=hb.ok.le q (by rw[hb.ps];exact hq)
  rw[hb.B,hT]at h
  exact h ((qM hb.es).1 ho)
 refine⟨λ_ u=>∃E w,w<=1/\((E=fw/\tmod GW 2=0)\/(E=[]/\tmod GW 2≠0))/\Ow (bR m x2 E [] w::bR n x fw fW 20::aW r y::[]) u,?_,?_⟩
 ·refine⟨by omega,ab.mk (λh0=>?_) (λh0=>⟨[],0,by omega,.inr ⟨rfl,by simpa using h0⟩,h2⟩)⟩
  refine⟨_,_,h3.rd 0 rfl (by simp),?_⟩
  refine kj (by omega) f.2.1 .nil y.es [] (by omega) (by simp) (by simp;omega) (λe he=>by have:=(TA e he).1;omega) h2 λe RY u3 hc h4=>⟨_,rfl,?_⟩
  obtain⟨rfl,rfl⟩:=hc.all (by omega) hu hb.es iv
  exact ab.f rfl ⟨RY,0,by omega,.inl ⟨rfl,by simpa using h0⟩,h4⟩
 rintro _ u3 ⟨E,w0,hw0,hE,h4⟩
 have aiK:∀q∈fW,¬du x2.T E q.conds:=λq hq=>by
  rw[hT2]
  rcases hE with⟨rfl,_⟩|⟨rfl,_⟩
  ·exact Kg q hq
  ·exact Qd (by omega) _
 have hsE:((bK E fW:Nat):Int)<=x2.M:=by
  rw[hM2]
  rcases hE with⟨rfl,_⟩|⟨rfl,_⟩
  ·omega
  ·have:=So fW;omega
 have ew2:wrap .i64 ((((y.ps.map Prod.pv).length:Nat):Int)-1)=((fW.length:Nat):Int)-1:=by rw[hlen,az (by omega) (by omega)]
 rw[ew2]
 refine ak.UJ fW.length (λi u=>i<=fW.length/\∃A w,w<=1+(fW.length-i)/\(∀q,q∈A↔∃j,i<=j/\∃h:j<fW.length,q=fW[(j+kk) % fW.length]'(Nat.mod_lt _ (by omega)))/\Ow (bR m x2 E A w::bR n x fw fW 20::aW r y::[]) u) ⟨Nat.le_refl _,[],w0,by omega,λq=>?_,h4⟩ ?_ ?_
 ·simp only[List.not_mem_nil,false_iff]
  rintro⟨j,h1,h2,_⟩
  omega
 ·rintro i u4 next hi ⟨_,A,w,hw,hA,h5⟩ ar
  have ei:wrap .i64 (((i:Nat):Int)+((kk:Nat):Int))=((i+kk:Nat):Int):=by rw[az (by omega) (by omega)];rfl
  have ei2:wrap .i64 (((i:Nat):Int)-1)=((i:Nat):Int)-1:=by rw[az (by omega) (by omega)]
  have cz:(i+kk) % fW.length<fW.length:=Nat.mod_lt _ (by omega)
  have aiW:(i+kk) % fW.length<y.ps.length:=by omega
  have Fc:y.ps[(i+kk) % fW.length]=fW[(i+kk) % fW.length]:=by simp only[hb.ps]
  refine ab.t (decide_eq_true (by omega)) ⟨by omega,?_⟩
  rw[ei,ei2,hlen,adX]
  refine⟨by omega,_,aw aiW,_,_,_,_,_,rfl,?_⟩
  rw[Fc]
  obtain⟨_,_,_,aa_,_,_⟩:=bR.facts h5
  have hm:=getElem_mem cz
  have abf:=TN _ hm
  obtain⟨_,_,_,g4,g5,_,_⟩:=abf.facts
  refine GM (by omega) .sh .sh fW[(i+kk) % fW.length] abf.qf (by omega) (by omega) h5 λe A' u5 ha h6=>⟨_,rfl,?_⟩
  have cm:fW[(i+kk) % fW.length]∉A:=λgG=>by
   obtain⟨j,MV,hj2,e⟩:=(hA _).1 gG
   have:=(List.getElem_inj (pO IV)).1 e
   rw[Xu hi jw,Xu hj2 jw]at this
   split at this<;>split at this<;>omega
  obtain⟨rfl,rfl⟩:=ha.ah5 IV aa_ hm (λq hq=>by obtain⟨j,_,hj2,rfl⟩:=(hA q).1 hq;exact getElem_mem _) cm abf.chk (aiK _ hm) hsE
  refine ab.f rfl (ar _ ⟨by omega,_,w+1,by omega,λq=>?_,h6⟩)
  rw[bj aP]
  constructor
  ·rintro(rfl|⟨hq,_⟩)
   ·exact⟨i,Nat.le_refl _,hi,rfl⟩
   ·obtain⟨j,a,b,c⟩:=(hA q).1 hq
    exact⟨j,by omega,b,c⟩
  ·rintro⟨j,a,b,c⟩
   by_cases e:j=i
   ·subst e;exact .inl c
   ·have hq:=(hA q).2 ⟨j,by omega,b,c⟩
    refine .inr ⟨hq,λen=>cm ?_⟩
    have:q=fW[(i+kk) % fW.length]:=zb aP IV (by rw[c];exact getElem_mem _) hm en
    rw[<- this];exact hq
 rintro u4 next ⟨_,A,w,hw,hA,h5⟩
 obtain⟨_,_,_,aa_,_,_⟩:=bR.facts h5
 obtain rfl:A=fW:=ca.ext aP aa_ IV λq=>by
  rw[hA]
  constructor
  ·rintro⟨j,_,hj,rfl⟩;exact getElem_mem _
  ·intro hq
   obtain⟨t,ht,rfl⟩:=List.mem_iff_getElem.1 hq
   by_cases hc:kk<=t
   ·refine⟨t-kk,by omega,by omega,?_⟩
    congr 1
    rw[Xu (by omega) jw,if_pos (by omega)];omega
   ·refine⟨t+fW.length-kk,by omega,by omega,?_⟩
    congr 1
    rw[Xu (by omega) jw,if_neg (by omega)];omega
 refine ab.f (by simp) ⟨λ_ u=>∃w,w<=100/\Ow (bR m x2 fw A w::bR n x fw A 20::aW r y::[]) u,?_,?_⟩
 ·refine⟨by omega,ab.mk (λh0=>?_) (λh0=>?_)⟩
  ·have hE:E=[]:=by
    rcases hE with⟨_,h⟩|⟨h,_⟩
    ·rw[h]at h0;cases h0
    ·exact h
   subst hE
   obtain⟨f2,h6⟩:=aW.open_ (Ow.ord [2] h5)
   have ew3:wrap .i64 ((((y.es.map af.pv).length:Nat):Int)-1)=((y.es.length:Nat):Int)-1:=by rw[length_map,az (by omega) (by omega)]
   refine⟨_,_,h6.rd 0 rfl (by simp),?_⟩
   rw[ew3]
   refine ak.UJ y.es.length (λi u=>i<=y.es.length/\∃E,(∀e,e∈E↔e∈y.es.drop i)/\E.length<=100/\Ow (bR m x2 E A w::bR n x fw A 20::aW r y::[]) u) ⟨Nat.le_refl _,[],by simp,by simp,h5⟩ ?_ ?_
   ·rintro i u5 qc hi ⟨_,E,hE,hEl,h7⟩ gq
    have ei1:wrap .i64 (((i:Nat):Int)+1)=((i+1:Nat):Int):=by rw[az (by omega) (by omega)];rfl
    have ei2:wrap .i64 (((i:Nat):Int)-1)=((i:Nat):Int)-1:=by rw[az (by omega) (by omega)]
    obtain⟨f3,h8⟩:=aW.open_ (Ow.ord [2] h7)
    refine ab.t (decide_eq_true (by omega)) ⟨_,_,h8.rd 0 rfl (by simp),?_⟩
    rw[ei1,ei2]
    have aj1:List.drop (toNat ((i:Nat):Int)) (List.take (toNat ((i+1:Nat):Int)) (y.es.map af.pv))=[y.es[i]].map af.pv:=by
     rw[Int.toNat_natCast,Int.toNat_natCast,<- List.map_take,<- List.map_drop,fx hi,List.drop_left' (by rw[List.length_take];omega)]
    refine⟨by omega,by omega,by rw[length_map];omega,?_⟩
    rw[aj1]
    obtain⟨_,_,huE,_,_,_⟩:=bR.facts h7
    have hti:=(TA _ (getElem_mem hi)).1
    refine kj (by omega) .sh .nil [y.es[i]] [] (by simp) (by simp) (by simp;omega) (λe he=>by simp only[List.mem_singleton]at he;subst he;omega) h7 λe E' u6 hc h9=>⟨_,rfl,ab.mk (λ_=>dS _) (λh0=>?_)⟩
    have h0:e=0:=by simpa using h0
    subst h0
    have hN:=hc.zero
    have als:=hc.len huE
    refine gq _ ⟨by omega,E',λe=>?_,?_,h9⟩
    ·rw[hN.2,List.drop_eq_getElem_cons hi,hE e];simp only[List.mem_cons,List.not_mem_nil,or_false,not_false_eq_true,and_true]
    ·have Bv:=Ce (hc.up huE)
     have:E'.length<=y.es.length:=by
      classical
      refine sE Bv λe he=>?_
      rcases(hN.2 e).1 he with h|⟨h,_⟩
      ·simp only[List.mem_singleton]at h;subst h;exact getElem_mem _
      ·exact List.mem_of_mem_drop ((hE e).1 h)
     omega
   ·rintro u5 qc ⟨_,E,hE,hEl,h7⟩
    obtain⟨_,_,huE,_,_,_⟩:=bR.facts h7
    obtain rfl:E=fw:=ca.ext ax huE hu λe=>by rw[hE,List.drop_zero,hb.es.mem_iff]
    exact ab.f rfl ⟨w,by omega,h7⟩
  ·rcases hE with⟨rfl,_⟩|⟨_,h⟩
   ·exact⟨w,by omega,h5⟩
   ·exact absurd (by simpa using h0) h
 ·rintro _ u5 ⟨w,hw,h6⟩
  have heq:∀e:Int,((e == e):Bool)=true:=λe=>by simp
  have aiI:∀p∈A,bD p.conds/\aj p.conds<=1000000/\p.bp.length<=1000000:=λp AQ=>by
   have aO:=TN p AQ
   obtain⟨_,_,_,g4,g5,_,_⟩:=aO.facts
   exact⟨aO.qf,by omega,by omega⟩
  refine(DW n).call ⟨_,_,_,rfl,Bk (by omega) (Ow.ord [1] h6) λfa u6 h7=>⟨_,_,rfl,?_⟩⟩
  refine(DW m).call ⟨_,_,_,rfl,Bk (by omega) (Ow.ord [1] h7) λfb u7 h8=>⟨_,_,rfl,?_⟩⟩
  refine SO fa fb h8 rfl ⟨_,rfl,ab.t rfl ?_⟩
  refine(Pb n).call ⟨_,_,_,rfl,Pd (by omega) (Ow.ord [1] h8) λfc u8 h9=>⟨_,_,rfl,?_⟩⟩
  refine(Pb m).call ⟨_,_,_,rfl,Pd (by omega) (Ow.ord [1] h9) λfd u9 qk=>⟨_,_,rfl,?_⟩⟩
  refine(aaO fc fd A A (by omega) aiI).call (λ_=>⟨_,rfl,ab.t rfl ?_⟩) (λaT=>absurd rfl aT)
  refine mS (Ow.ord [1] qk) λD d1 d2 u10 A_=>⟨_,rfl,mS (Ow.ord [1] A_) λD' d1' d2' u11 mw=>⟨_,rfl,?_⟩⟩
  have:D'.length=D.length:=sH d1' d1 λq=>by rw[d2,d2']
  rw[this]
  refine ab.t (heq _) (rf (by omega) (Ow.ord [1] mw) λu12 Bx=>⟨_,rfl,rf (by omega) (Ow.ord [1] Bx) λu13 h14=>⟨_,rfl,ab.t (heq _) (dS _)⟩⟩)
open Go.ChangeShapes Go.WideShapes Go.ChangeAt
set_option maxRecDepth 100000 in
theorem ReteOrders.lifted(os:Os)(started:os.Started)(H:Type)(enc:TypeId×Value->H):
  ReturnsInHanded {} Tryz.checked os 12 .any (Rows.reteOrdersSpec.pre6 enc prog f12 Rows.reteOrdersRow.domain false) (Rows.reteOrdersSpec.post enc prog f12 false true false false):=by
 refine returnsInHanded_of_change (C:=Tryz.checked) qK started (by kernel_rfl) func12
  (ChangeSpec.witness6 (enc:=enc) (C:=Tryz.checked) false ⟨#[],#[.slice none 0 0,.slice none 0 0,.int .i64 0],[]⟩ 12 (by kernel_rfl) (by kernel_rfl) (by kernel_rfl) (by kernel_rfl)) ?_
 intro W base args ds gs before jH hW QG _
 have gU:∀(j:Nat) t v,f12.params[j]?=some t->args[j]?=some v->Value.okWide prog W .any base t v:=jH
 have QI:=hW
 obtain⟨p,q,Gv,hV,rfl,ZM,Bv⟩:=hW
 have hA:DataW.TrodAll enc prog W 0 (λ_=>true) true f12.params.toList args.toList ds p:=Gv
 rw[params12]at hA gU
 obtain⟨v0,vs0,d0,ds0,p0,q0,AW,rfl,rfl,h0,r0⟩:=trodAll_cons hA
 obtain⟨v1,WA,d1,ds1,p1,q1,rfl,rfl,rfl,h1,r1⟩:=trodAll_cons r0
 obtain⟨v2,vs2,d2,ds2,p2,q2,rfl,rfl,rfl,h2,r2⟩:=trodAll_cons r1
 obtain⟨rfl,rfl,rfl⟩:=trodAll_nil r2
 obtain rfl:args= #[v0,v1,v2]:=by cases args;simp_all
 obtain⟨rfl,rfl⟩:=trodVars_none hV
 have Qq:∀x∈p0,x.block<W.heap.size:=by obtain⟨m,hm⟩:=h0;exact DataW.trod_lt m _ _ _ hm
 obtain⟨a0,e0,w0⟩:=iY underlying43 Cm (by omega) vv (gU 0 43 v0 rfl rfl) h0
 have Qp:∀x∈p1,x.block<W.heap.size:=by obtain⟨m,hm⟩:=h1;exact DataW.trod_lt m _ _ _ hm
 obtain⟨a1,e1,w1⟩:=iY underlying29 jq (by omega) ph (gU 1 29 v1 rfl rfl) h1
 have Tm:∀x∈p2,x.block<W.heap.size:=by obtain⟨m,hm⟩:=h2;exact DataW.trod_lt m _ _ _ hm
 obtain⟨a2,e2,w2⟩:=mM underlying3 (gU 2 3 v2 rfl rfl) h2
 clear Gv jH
 refine(ao.calls (vs:=[v0,v1,v2]) (KT a0 w0 a1 w1 a2) (bf.cons rfl e0 (bf.cons rfl e1 (bf.cons rfl e2 (bf.nil _))))).mono λe W' ⟨⟨v,x,Z,he,hr,hx⟩,tj⟩=>?_
 subst hx;subst he;rw[hr.ofRaw.1]
 exact⟨_,rfl,_,_,_,[],_,[],QI,trodAll_mk1 (shut_bool underlying4 _),(trodAll_cons_mk (Below.trod dj (by kernel_rfl) (of_decide_eq_true (by kernel_rfl)) h0 tj Qq) (trodAll_cons_mk (Below.trod dj (by kernel_rfl) (of_decide_eq_true (by kernel_rfl)) h1 tj Qp) (trodAll_cons_mk (Below.trod dj (by kernel_rfl) (of_decide_eq_true (by kernel_rfl)) h2 tj Tm) trodAll_mk0))),rfl,tj.frame _,λh=>by cases h⟩
theorem and2{a b:Bool}(h:a=true)(k:b=true):(a&&b)=true:=by rw[h,k];rfl
set_option maxHeartbeats 0 in
theorem ReteOrders.closed:joinedFacts Tryz.checked.prog 12 f12 Rows.reteOrdersSpec Rows.reteOrdersRow=true:=by
 unfold joinedFacts
 repeat' with_reducible apply and2
 all_goals (as_aux_lemma=>kernel_rfl)
theorem ReteOrders.proved:Rows.ReteOrdersSaid:=
 OpenClaim.holds_of_wide 12 f12 rfl rfl rfl rfl rfl rfl rfl ⟨rfl,rfl,rfl,rfl,rfl⟩ rfl rfl rfl rfl rfl (by kernel_rfl) func12 ReteOrders.closed
  (of_decide_eq_true (by kernel_rfl)) (by unfold Func.isWrapper;first|(rw[if_pos (by decide +kernel)];kernel_rfl)|(rw[if_neg (by decide +kernel)];exact⟨rfl,rfl⟩))
  (λos started H enc _=>ReteOrders.lifted os started H enc)
end Go.Proofs.YtbodiiomcfgokaaGreat
