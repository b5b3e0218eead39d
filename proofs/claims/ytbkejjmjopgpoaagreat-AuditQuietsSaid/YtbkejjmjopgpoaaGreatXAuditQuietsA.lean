/- What the proof of the statement AuditQuiets rests on. Conditions: none. -/
import Derived.Test.YtbkejjmjopgpoaaGreatB19
import Derived.Test.YtbkejjmjopgpoaaGreatB09
import Derived.Test.YtbkejjmjopgpoaaGreatB11
import Derived.Test.YtbkejjmjopgpoaaGreatB12
import Derived.Test.YtbkejjmjopgpoaaGreatB13
import Derived.Test.YtbkejjmjopgpoaaGreatB14
import Derived.Test.YtbkejjmjopgpoaaGreatB15
import Derived.Test.YtbkejjmjopgpoaaGreatB16
import Derived.Test.YtbkejjmjopgpoaaGreatB17
import Derived.Test.YtbkejjmjopgpoaaGreatB18
import Derived.Test.YtbkejjmjopgpoaaGreatProg
import Derived.KernelRfl
import Derived.ChangeArms
import Derived.WideShapes
import Derived.DataReads
set_option linter.all false
namespace Go.Proofs.YtbkejjmjopgpoaaGreat
open Go.Proofs.Tryz Go.az
variable {u0:Mem} {K:Kq}
set_option maxRecDepth 100000
theorem kR.c{M x y N A B D:Fl}{e f g z i j C:Lq}{k l m n o p q:Int}{E:Bool}(h: cw (α:=Bool) (λw=> ab prog 6 [.agg [.list 12 .sh e,.list 16 .sh f,.list 9 .sh g,.list 5 .sh z,.list 1 .sh i,.list 1 .sh j,pI k,pI l,pI m,pI n,pI o,pI p,pI q]] u0 λc3 R=> ∃X,c3=(pB X)/\ ae X (w true R) (ab prog 10 [.list 3 D C,pI 5] R λc4 T=> ∃Y,c4=(pB Y)/\ ae Y (w true T) (w (decide (((List.length e:Nat):Int)>24)) T))) (λb2 Q=> ae b2 (ab prog 7 [] Q λc8 b9=> ∃Z,c8=(pB Z)/\ K (pB Z) b9) (ab prog 12 [.list 3 D C] Q λc9 c0=> ∃t s,c9=(.list 3 t s)/\ ab prog 13 [.list 12 M e] c0 λd0 U=> ∃v u,d0=(.list 12 v u)/\ cw (α:=((Fl×Lq)×(Fl×Lq)×(Fl×Lq)×(Fl×Lq)×(Fl×Lq)×(Fl×Lq)×Int×Int×Int×Int×Int×Int×Int)) (λJ=> ae E (ab prog 14 [.list 3 t s,.list 12 v u] U λd1 V=> ∃d6 d a0,d1=(.aC [.list 2 d6 d,pB a0])/\ cw (α:=Bool) (λL=> ae (!a0) (L true V) (L (decide (((List.length d:Nat):Int)>200)) V)) (λb3 W=> ae b3 (ab prog 7 [] W λd2 c2=> ∃a1,d2=(pB a1)/\ K (pB a1) c2) (aj (α:=((Fl×Lq)×(Fl×Lq)×(Fl×Lq)×(Fl×Lq)×(Fl×Lq)×(Fl×Lq)×Int×Int×Int×Int×Int×Int×Int)×Int) (λb1 a S=> ae (decide (a.2<((List.length d:Nat):Int))) (0<=a.2/\∃(O:List PV),(d)[Int.toNat a.2]?=some O/\ ∃G,aA O 0 1=some [pS G]/\ 0<=a.2/\∃(P:List PV),(d)[Int.toNat a.2]?=some P/\ ∃d7 H,aA P 1 1=some [.list 1 d7 H]/\ bF false 5 64 a.1.2.2.2.1.1 a.1.2.2.2.1.2 [[pI (IntKind.wrap .i64 (a.2+1)),pI 1,pS G,.list 1 .sh H,pB false]] S λb0 b4=> b1 (((a.1.1.1,a.1.1.2),(a.1.2.1.1,a.1.2.1.2),(a.1.2.2.1.1,a.1.2.2.1.2),(b0,(a.1.2.2.2.1.2++[[pI (IntKind.wrap .i64 (a.2+1)),pI 1,pS G,.list 1 .sh H,pB false]])),(a.1.2.2.2.2.1.1,a.1.2.2.2.2.1.2),(a.1.2.2.2.2.2.1.1,a.1.2.2.2.2.2.1.2),a.1.2.2.2.2.2.2.1,a.1.2.2.2.2.2.2.2.1,a.1.2.2.2.2.2.2.2.2.1,a.1.2.2.2.2.2.2.2.2.2.1,a.1.2.2.2.2.2.2.2.2.2.2.1,a.1.2.2.2.2.2.2.2.2.2.2.2.1,a.1.2.2.2.2.2.2.2.2.2.2.2.2),(IntKind.wrap .i64 (a.2+1))) b4) (J ((a.1.1.1,a.1.1.2),(a.1.2.1.1,a.1.2.1.2),(a.1.2.2.1.1,a.1.2.2.1.2),(a.1.2.2.2.1.1,a.1.2.2.2.1.2),(a.1.2.2.2.2.1.1,a.1.2.2.2.2.1.2),(a.1.2.2.2.2.2.1.1,a.1.2.2.2.2.2.1.2),a.1.2.2.2.2.2.2.1,a.1.2.2.2.2.2.2.2.1,a.1.2.2.2.2.2.2.2.2.1,a.1.2.2.2.2.2.2.2.2.2.1,a.1.2.2.2.2.2.2.2.2.2.2.1,a.1.2.2.2.2.2.2.2.2.2.2.2.1,a.1.2.2.2.2.2.2.2.2.2.2.2.2) S)) (((v,u),(x,f),(y,g),(.nil,[]),(A,i),(B,j),k,l,m,n,o,p,q),0) W))) (J ((v,u),(x,f),(y,g),(N,z),(A,i),(B,j),k,l,m,n,o,p,q) U)) (λb c1=> ab prog 22 [.agg [.list 12 .sh b.1.2,.list 16 .sh b.2.1.2,.list 9 .sh b.2.2.1.2,.list 5 .sh b.2.2.2.1.2,.list 1 .sh b.2.2.2.2.1.2,.list 1 .sh b.2.2.2.2.2.1.2,pI b.2.2.2.2.2.2.1,pI b.2.2.2.2.2.2.2.1,pI b.2.2.2.2.2.2.2.2.1,pI b.2.2.2.2.2.2.2.2.2.1,pI b.2.2.2.2.2.2.2.2.2.2.1,pI b.2.2.2.2.2.2.2.2.2.2.2.1,pI b.2.2.2.2.2.2.2.2.2.2.2.2],.list 3 t s] c1 λd3 F=> ∃I a2,d3=(.aC [pB I,pB a2])/\ ae (!a2) (ab prog 7 [] F λd4 b5=> ∃a3,d4=(pB a3)/\ K (pB a3) b5) (dg prog 17 [.list 3 t s] F λd5 b6=> ∃a4 a5 a6,d5=(.fn a4 a5 a6)/\ ab prog 23 [.agg [.list 12 .sh b.1.2,.list 16 .sh b.2.1.2,.list 9 .sh b.2.2.1.2,.list 5 .sh b.2.2.2.1.2,.list 1 .sh b.2.2.2.2.1.2,.list 1 .sh b.2.2.2.2.2.1.2,pI b.2.2.2.2.2.2.1,pI b.2.2.2.2.2.2.2.1,pI b.2.2.2.2.2.2.2.2.1,pI b.2.2.2.2.2.2.2.2.2.1,pI b.2.2.2.2.2.2.2.2.2.2.1,pI b.2.2.2.2.2.2.2.2.2.2.2.1,pI b.2.2.2.2.2.2.2.2.2.2.2.2],.fn a4 a5 a6] (Mem.or F b6) λc5 r=> ∃a7,c5=(pB a7)/\ ae (a7 == I) (ae (!E) (ab prog 7 [] r λc6 b7=> ∃a8,c6=(pB a8)/\ K (pB a8) b7) (ae I (ab prog 7 [] r λc7 b8=> ∃a9,c7=(pB a9)/\ K (pB a9) b8) (K (pB false) r))) (K (pB false) r)))))):ab prog 5 [.agg [.list 12 M e,.list 16 x f,.list 9 y g,.list 5 N z,.list 1 A i,.list 1 B j,pI k,pI l,pI m,pI n,pI o,pI p,pI q],.list 3 D C,pB E] u0 K:= VC [3] [(11,⟨[(3,.box [.list 12,.list 16,.list 9,.list 5,.list 1,.list 1,.raw (.int .i64),.raw (.int .i64),.raw (.int .i64),.raw (.int .i64),.raw (.int .i64),.raw (.int .i64),.raw (.int .i64)]),(9,.one (.raw (.int .i64)))],[]⟩)] [(2,⟨[(23,.one (.raw .bool))],[]⟩),(8,⟨[(45,.one (.raw .bool))],[]⟩),(14,⟨[(3,.box [.list 12,.list 16,.list 9,.list 5,.list 1,.list 1,.raw (.int .i64),.raw (.int .i64),.raw (.int .i64),.raw (.int .i64),.raw (.int .i64),.raw (.int .i64),.raw (.int .i64)])],[]⟩)] [] [] [] [] func5 h
theorem mb.c{n y z A B D:Fl}{m o e d f C:Lq}{E F G H I J L:Int}(h: ab prog 11 [.list 12 n m,pI 40] u0 λP b=> ∃w,P=(pB w)/\ ae (!w) (K (pB true) b) (ae (decide (((List.length o:Nat):Int)>30)) (K (pB true) b) (ae (decide (((List.length e:Nat):Int)>10)) (K (pB true) b) (ae (decide (((List.length d:Nat):Int)>30)) (K (pB true) b) (ae (decide (((List.length f:Nat):Int)>10)) (K (pB true) b) (aj (α:=Int) (λM a j=> ae (decide (a<((List.length d:Nat):Int))) (0<=a/\∃(p:List PV),(d)[Int.toNat a]?=some p/\ ∃Q t,aA p 3 1=some [.list 1 Q t]/\ ae (decide (((List.length t:Nat):Int)>20)) (K (pB true) j) (0<=a/\∃(q:List PV),(d)[Int.toNat a]?=some q/\ ∃u,aA q 2 1=some [pS u]/\ ae (decide ((((ByteArray.size u:Nat):Int):Int)>100)) (K (pB true) j) (M (IntKind.wrap .i64 (a+1)) j))) (aj (α:=Int) (λN g k=> ae (decide (g<((List.length f:Nat):Int))) (0<=g/\∃(r:List PV),(f)[Int.toNat g]?=some r/\ ∃R v,aA r 0 1=some [.list 1 R v]/\ ae (decide (((List.length v:Nat):Int)>30)) (K (pB true) k) (N (IntKind.wrap .i64 (g+1)) k)) (aj (α:=Int) (λO i l=> ae (decide (i<((List.length e:Nat):Int))) (0<=i/\∃(s:List PV),(e)[Int.toNat i]?=some s/\ ∃S x,aA s 5 1=some [.list 3 S x]/\ ae (decide (((List.length x:Nat):Int)>20)) (K (pB true) l) (O (IntKind.wrap .i64 (i+1)) l)) (K (pB false) l)) (0) k)) (0) j)) (0) b)))))):ab prog 6 [.agg [.list 12 n m,.list 16 y o,.list 9 z e,.list 5 A d,.list 1 B f,.list 1 D C,pI E,pI F,pI G,pI H,pI I,pI J,pI L]] u0 K:= VC [1] [(4,⟨[(3,.one (.raw (.int .i64)))],[]⟩),(9,⟨[(4,.one (.raw (.int .i64)))],[]⟩),(14,⟨[(5,.one (.raw (.int .i64)))],[]⟩)] [] [] [] [] [] func6 h
theorem md.c{m:Fl}{a:Lq}{d:Int}(h: ae (decide (((List.length a:Nat):Int)>d)) (K (pB true) u0) (aj (α:=Int) (λn b f=> ae (decide (b<((List.length a:Nat):Int))) (0<=b/\∃(e:List PV),(a)[Int.toNat b]?=some e/\ ∃i p j q k,aA e 0 3=some [pS i,.list 7 p j,.list 19 q k]/\ ab prog 50 [.agg [pS i,.list 7 .sh j,.list 19 .sh k]] f λo g=> ∃l,o=(pB l)/\ ae l (K (pB true) g) (n (IntKind.wrap .i64 (b+1)) g)) (K (pB false) f)) (0) u0)):ab prog 10 [.list 3 m a,pI d] u0 K:= VC [] [(4,⟨[(5,.one (.raw (.int .i64)))],[]⟩)] [] [] [] [] [] func10 h
theorem qK.c{q:Fl}{b:Lq}(h: aj (α:=(Fl×Lq)×Int) (λg a k=> ae (decide (a.2<((List.length b:Nat):Int))) (0<=a.2/\∃(i:List PV),(b)[Int.toNat a.2]?=some i/\ ∃m u n v o,aA i 0 3=some [pS m,.list 7 u n,.list 19 v o]/\ ab prog 52 [.agg [pS m,.list 7 .sh n,.list 19 .sh o]] k λt l=> ∃w p,t=(.aC [pI w,pI p])/\ ae (p == 0) (0<=a.2/\∃(j:List PV),(b)[Int.toNat a.2]?=some j/\ ∃d x e y f,aA j 0 3=some [pS d,.list 7 x e,.list 19 y f]/\ bF false 3 64 a.1.1 a.1.2 [[pS d,.list 7 .sh e,.list 19 .sh f]] l λr s=> g ((r,(a.1.2++[[pS d,.list 7 .sh e,.list 19 .sh f]])),(IntKind.wrap .i64 (a.2+1))) s) (g ((a.1.1,a.1.2),(IntKind.wrap .i64 (a.2+1))) l)) (K (.list 3 a.1.1 a.1.2) k)) ((.nil,[]),0) u0):ab prog 12 [.list 3 q b] u0 K:= VC [] [(3,⟨[(3,.one (.list 3)),(4,.one (.raw (.int .i64)))],[]⟩)] [] [] [] [] [] func12 h
theorem pC.c{r:Fl}{b:Lq}(h: aj (α:=(Fl×Lq)×Int) (λt a q=> ae (decide (a.2<((List.length b:Nat):Int))) (0<=a.2/\∃(p:List PV),(b)[Int.toNat a.2]?=some p/\ ∃d e f g i j k l m n o v,aA p 0 12=some [pI d,pS e,pI f,pI g,pS i,pI j,pI k,pS l,pI m,pB n,pB o,pI v]/\ bF false 12 112 a.1.1 a.1.2 [[pI d,pS e,pI f,pI g,pS i,pI j,pI k,pS l,pI m,pB n,pB o,pI (IntKind.wrap .i64 (a.2+1))]] q λs u=> t ((s,(a.1.2++[[pI d,pS e,pI f,pI g,pS i,pI j,pI k,pS l,pI m,pB n,pB o,pI (IntKind.wrap .i64 (a.2+1))]])),(IntKind.wrap .i64 (a.2+1))) u) (K (.list 12 a.1.1 a.1.2) q)) ((.nil,[]),0) u0):ab prog 13 [.list 12 r b] u0 K:= VC [5] [(3,⟨[(3,.one (.list 12)),(4,.one (.raw (.int .i64)))],[]⟩)] [] [] [] [] [] func13 h
theorem nA.c{D j:Fl}{e i:Lq}(h: aj (α:=(Fl×Lq)×Int) (λk a q=> ae (decide (a.2<((List.length e:Nat):Int))) (aj (α:=Bool×Int) (λl d f=> ae (decide (d.2<a.2)) (ae d.1 (0<=d.2/\∃(m:List PV),(e)[Int.toNat d.2]?=some m/\ ∃t,aA m 0 1=some [pS t]/\ 0<=a.2/\∃(n:List PV),(e)[Int.toNat a.2]?=some n/\ ∃u,aA n 0 1=some [pS u]/\ l ((!aG t u),(IntKind.wrap .i64 (d.2+1))) f) (l (false,(IntKind.wrap .i64 (d.2+1))) f)) (ae (!d.1) (k ((a.1.1,a.1.2),(IntKind.wrap .i64 (a.2+1))) f) (0<=a.2/\∃(o:List PV),(e)[Int.toNat a.2]?=some o/\ ∃v I w J x,aA o 0 3=some [pS v,.list 7 I w,.list 19 J x]/\ ab prog 53 [.agg [pS v,.list 7 .sh w,.list 19 .sh x],.list 12 j i,pI 3000] f λG r=> ∃L g y,G=(.aC [.list 2 L g,pB y])/\ ae (!y) (K (.aC [.list 2 .nil [],pB false]) r) (aj (α:=(Fl×Lq)×Int) (λE b s=> ae (decide (b.2<((List.length g:Nat):Int))) (0<=b.2/\∃(p:List PV),(g)[Int.toNat b.2]?=some p/\ ∃z M A,aA p 0 2=some [pS z,.list 1 M A]/\ ab prog 54 [.list 2 b.1.1 b.1.2,.agg [pS z,.list 1 .sh A]] s λH F=> ∃C B,H=(.list 2 C B)/\ E ((C,B),(IntKind.wrap .i64 (b.2+1))) F) (k ((b.1.1,b.1.2),(IntKind.wrap .i64 (a.2+1))) s)) ((a.1.1,a.1.2),0) r)))) (true,0) q) (K (.aC [.list 2 a.1.1 a.1.2,pB true]) q)) ((.nil,[]),0) u0):ab prog 14 [.list 3 D e,.list 12 j i] u0 K:= VC [] [(3,⟨[(6,.one (.list 2)),(7,.one (.raw (.int .i64)))],[]⟩),(7,⟨[(8,.one (.raw .bool)),(9,.one (.raw (.int .i64)))],[]⟩),(15,⟨[(6,.one (.list 2)),(12,.one (.raw (.int .i64)))],[]⟩)] [] [] [] [] [] func14 h
theorem wZ.c{a e:Fn}{b d f g:List PV}(h: K (.fn (.func 55) [] [.bl [.fn e f g] 0,.bl [.fn a b d] 0]) u0):ab prog 16 [.fn a b d,.fn e f g] u0 K:= VC [] [] [] [] [2,3] [] [] func16 h
theorem ll.c{b:Fl}{a:Lq}(h: K (.fn (.func 60) [] [.bl [.list 3 .sh a] 0]) u0):ab prog 17 [.list 3 b a] u0 K:= VC [] [] [] [] [1] [] [] func17 h
theorem Lq.c{l U V W X Y y:Fl}{j m n d o p x:Lq}{q r s t u v w:Int}(h: ab prog 14 [.list 3 y x,.list 12 l j] u0 λa2 E=> ∃a6 g J,a2=(.aC [.list 2 a6 g,pB J])/\ ae (!J) (K (.aC [pB false,pB false]) E) (aj (α:=(Fl×Lq)×Int) (λz a f=> ae (decide (a.2<((List.length d:Nat):Int))) (0<=a.2/\∃(A:List PV),(d)[Int.toNat a.2]?=some A/\ ∃a7 a8 k a9 i b0,aA A 0 5=some [pI a7,pI a8,pS k,.list 1 a9 i,pB b0]/\ ae (!aG k ⟨#[]⟩) (ab prog 54 [.list 2 a.1.1 a.1.2,.agg [pS k,.list 1 .sh i]] f λa3 a1=> ∃M L,a3=(.list 2 M L)/\ z ((M,L),(IntKind.wrap .i64 (a.2+1))) a1) (aj (α:=Int) (λZ e F=> ae (decide (e<((List.length i:Nat):Int))) (0<=e/\∃(B:List PV),(i)[Int.toNat e]?=some B/\ ∃N,aA B 0 1=some [pI N]/\ ab prog 63 [.agg [.list 12 .sh j,.list 16 .sh m,.list 9 .sh n,.list 5 .sh d,.list 1 .sh o,.list 1 .sh p,pI q,pI r,pI s,pI t,pI u,pI v,pI w],pI N] F λa4 G=> ∃O,a4=(pB O)/\ ae (!O) (K (.aC [pB false,pB true]) G) (Z (IntKind.wrap .i64 (e+1)) G)) (z ((a.1.1,a.1.2),(IntKind.wrap .i64 (a.2+1))) F)) (0) f)) (ae (((List.length a.1.2:Nat):Int) != ((List.length g:Nat):Int)) (K (.aC [pB false,pB true]) f) (aj (α:=Int) (λa0 b H=> ae (decide (b<((List.length g:Nat):Int))) (0<=b/\∃(C:List PV),(g)[Int.toNat b]?=some C/\ ∃P b1 Q,aA C 0 2=some [pS P,.list 1 b1 Q]/\ 0<=b/\∃(D:List PV),(a.1.2)[Int.toNat b]?=some D/\ ∃R b2 S,aA D 0 2=some [pS R,.list 1 b2 S]/\ ab prog 64 [.agg [pS P,.list 1 .sh Q],.agg [pS R,.list 1 .sh S]] H λa5 I=> ∃T,a5=(pB T)/\ ae (!T) (K (.aC [pB false,pB true]) I) (a0 (IntKind.wrap .i64 (b+1)) I)) (K (.aC [pB true,pB true]) H)) (0) f))) ((.nil,[]),0) E)):ab prog 22 [.agg [.list 12 l j,.list 16 U m,.list 9 V n,.list 5 W d,.list 1 X o,.list 1 Y p,pI q,pI r,pI s,pI t,pI u,pI v,pI w],.list 3 y x] u0 K:= VC [2,10] [(6,⟨[(8,.one (.list 2)),(9,.one (.raw (.int .i64)))],[]⟩),(12,⟨[(11,.one (.raw (.int .i64)))],[]⟩),(19,⟨[(12,.one (.raw (.int .i64)))],[]⟩)] [] [] [] [] [] func22 h
theorem sA.c{e:ByteArray}{d j:Fl}{b f:Lq}(h: ab prog 104 [.list 7 d b,pI 40,pI 0] u0 λl a=> ∃i,l=(pI i)/\ ae (decide (i>40)) (K (pB true) a) (ae (decide (((List.length f:Nat):Int)>40)) (K (pB true) a) (ae (decide ((((ByteArray.size e:Nat):Int):Int)>100)) (K (pB true) a) (ab prog 105 [.list 7 d b] a λm k=> ∃g,m=(pB g)/\ K (pB g) k)))):ab prog 50 [.agg [pS e,.list 7 d b,.list 19 j f]] u0 K:= VC [1] [] [] [] [] [] [] func50 h
theorem AF.c{a:ByteArray}{g i:Fl}{b d:Lq}(h: ab prog 106 [.agg [pS a,.list 7 .sh b,.list 19 .sh d]] u0 λk j=> ∃e f m l,k=(.aC [pI e,pI f,.list 1 m l])/\ K (.aC [pI e,pI f]) j):ab prog 52 [.agg [pS a,.list 7 g b,.list 19 i d]] u0 K:= VC [1] [] [] [] [] [] [] func52 h
theorem vG.c{b:ByteArray}{s t j:Fl}{f g i:Lq}{k:Int}(h: ab prog 107 [.agg [pS b,.list 7 .sh f,.list 19 .sh g],.list 12 j i,pI k] u0 λy d=> ∃A e n,y=(.aC [.list 3 A e,pA n])/\ nP n λu w=> ∃o,aN d u (w+2) 1=some [pB o]/\ ae o (K (.aC [.list 2 .nil [],pB false]) d) (aj (α:=(Fl×Lq)×Int) (λv a m=> ae (decide (a.2<((List.length e:Nat):Int))) (0<=a.2/\∃(l:List PV),(e)[Int.toNat a.2]?=some l/\ ∃B p,aA l 0 1=some [.list 1 B p]/\ ab prog 54 [.list 2 a.1.1 a.1.2,.agg [pS b,.list 1 .sh p]] m λz x=> ∃r q,z=(.list 2 r q)/\ v ((r,q),(IntKind.wrap .i64 (a.2+1))) x) (K (.aC [.list 2 a.1.1 a.1.2,pB true]) m)) ((.nil,[]),0) d)):ab prog 53 [.agg [pS b,.list 7 s f,.list 19 t g],.list 12 j i,pI k] u0 K:= VC [3] [(6,⟨[(10,.one (.list 2)),(11,.one (.raw (.int .i64)))],[]⟩)] [] [] [] [] [] func53 h
theorem um.c{o p:Fl}{a f:Lq}{e:ByteArray}(h: cw (α:=Int) (λg=> aj (α:=Int) (λt d j=> ae (decide (d>0)) (0<=(IntKind.wrap .i64 (d-1))/\∃(i:List PV),(a)[Int.toNat (IntKind.wrap .i64 (d-1))]?=some i/\ ∃l z m,aA i 0 2=some [pS l,.list 1 z m]/\ ab prog 108 [.agg [pS e,.list 1 .sh f],.agg [pS l,.list 1 .sh m]] j λy k=> ∃n,y=(pB n)/\ ae n (t (IntKind.wrap .i64 (d-1)) k) (g d k)) (g d j)) ((List.length a:Nat):Int) u0) (λb u=> (0:Int)<=(0:Int)/\0<=b/\b<=((List.length a:Nat):Int)/\ bF false 2 40 .nil [] (List.drop (Int.toNat (0:Int)) (List.take (Int.toNat b) a)) u λq v=> bF false 2 40 q ([]++(List.drop (Int.toNat (0:Int)) (List.take (Int.toNat b) a))) [[pS e,.list 1 .sh f]] v λr w=> 0<=b/\b<=((List.length a:Nat):Int)/\((List.length a:Nat):Int)<=((List.length a:Nat):Int)/\ bF false 2 40 r (([]++(List.drop (Int.toNat (0:Int)) (List.take (Int.toNat b) a)))++[[pS e,.list 1 .sh f]]) (List.drop (Int.toNat b) (List.take (Int.toNat ((List.length a:Nat):Int)) a)) w λs x=> K (.list 2 s ((([]++(List.drop (Int.toNat (0:Int)) (List.take (Int.toNat b) a)))++[[pS e,.list 1 .sh f]])++(List.drop (Int.toNat b) (List.take (Int.toNat ((List.length a:Nat):Int)) a)))) x)):ab prog 54 [.list 2 o a,.agg [pS e,.list 1 p f]] u0 K:= VC [3] [(2,⟨[(5,.one (.raw (.int .i64)))],[]⟩)] [(4,⟨[(5,.one (.raw (.int .i64)))],[]⟩)] [] [] [] [] func54 h
theorem DA.c{f g i j:Fl}{a b d e:Lq}(h: K (.fn (.func 111) [] [.bl [.list 7 .sh a] 0,.bl [.list 12 .sh b] 0,.bl [.list 1 .sh d] 0,.bl [.list 4 .sh e] 0]) u0):ab prog 58 [.list 7 f a,.list 12 g b,.list 1 i d,.list 4 j e] u0 K:= VC [] [] [] [] [4,5,6,7] [] [] func58 h
theorem DC.c{n:Option Addr}{p o:Nat}{e:ByteArray}{i:Fl}{f:Lq}(h: iw 2 40 118 n p o (.list 2 .nr [[pS e,.list 1 .sh f]]) u0 λd b t F=> aj (α:=Int) (λr a j=> ae (decide (a>0)) (bR d λx B=> 0<=(IntKind.wrap .i64 (a-1))/\(IntKind.wrap .i64 (a-1))<((b:Nat):Int)/\ ∃u M v,aN j x (B+Int.toNat (IntKind.wrap .i64 (a-1))*2) 2=some [pS u,.list 1 M v]/\ ab prog 66 [.agg [pS e,.list 1 .sh f],.agg [pS u,.list 1 .sh v]] j λL g=> ∃w,L=(pI w)/\ ae (decide (w<0)) (bR d λy C=> 0<=(IntKind.wrap .i64 (a-1))/\(IntKind.wrap .i64 (a-1))<((b:Nat):Int)/\ ∃k m l,aN g y (C+Int.toNat (IntKind.wrap .i64 (a-1))*2) 2=some [pS k,.list 1 m l]/\ bR d λq s=> 0<=a/\a<((b:Nat):Int)/\ ((stM q (s+Int.toNat a*2) [pS k,.list 1 m l] g λG=> bR d λz D=> 0<=(IntKind.wrap .i64 (a-1))/\(IntKind.wrap .i64 (a-1))<((b:Nat):Int)/\ (stM z (D+Int.toNat (IntKind.wrap .i64 (a-1))*2) [pS e,.list 1 i f] G λH=> r (IntKind.wrap .i64 (a-1)) H)/\ True)/\ True)/\ (stM q (s+Int.toNat a*2) [pS k,.list 1 m l] g λI=> bR d λA E=> 0<=(IntKind.wrap .i64 (a-1))/\(IntKind.wrap .i64 (a-1))<((b:Nat):Int)/\ (stM A (E+Int.toNat (IntKind.wrap .i64 (a-1))*2) [pS e,.list 1 i f] I λJ=> r (IntKind.wrap .i64 (a-1)) J)/\ True)/\ True) (K (pV d b t) g)) (K (pV d b t) j)) (IntKind.wrap .i64 (((b:Nat):Int)-1)) F):ab prog 59 [pV n p o,.agg [pS e,.list 1 i f]] u0 K:= VC [3,1000005] [(3,⟨[(5,.one (.raw (.int .i64)))],[]⟩)] [] [] [] [] [0,4,6,9,17,27,29,32,40] func59 h
theorem kg.c{d:Fn}{e f b:List PV}(h: aj (α:=Int) (λq a i=> ∃v p,aA b 0 1=some [.list 3 v p]/\ ae (decide (a<((List.length p:Nat):Int))) (∃s k,aA b 0 1=some [.list 3 s k]/\ 0<=a/\∃(g:List PV),(k)[Int.toNat a]?=some g/\ ∃l t m u n,aA g 0 3=some [pS l,.list 7 t m,.list 19 u n]/\ bc prog (.fn d e f) [.agg [pS l,.list 7 .sh m,.list 19 .sh n]] i λr j=> ∃o,r=(pB o)/\ ae (!o) (K (.aC []) j) (q (IntKind.wrap .i64 (a+1)) j)) (K (.aC []) i)) (0) u0):ab prog 60 [.fn d e f,.bl b 0] u0 K:= VC [] [(1,⟨[(3,.one (.raw (.int .i64)))],[]⟩)] [] [] [] [] [] func60 h
theorem sm.c{i k m o q s:Fl}{b j l n p r:Lq}{t u v w x y z e:Int}(h: aj (α:=Int) (λA a d=> ae (decide (a<((List.length b:Nat):Int))) (0<=a/\∃(f:List PV),(b)[Int.toNat a]?=some f/\ ∃g,aA f 11 1=some [pI g]/\ ae (g == e) (K (pB true) d) (A (IntKind.wrap .i64 (a+1)) d)) (K (pB false) d)) (0) u0):ab prog 63 [.agg [.list 12 i b,.list 16 k j,.list 9 m l,.list 5 o n,.list 1 q p,.list 1 s r,pI t,pI u,pI v,pI w,pI x,pI y,pI z],pI e] u0 K:= VC [2] [(2,⟨[(5,.one (.raw (.int .i64)))],[]⟩)] [] [] [] [] [] func63 h
theorem JP.c{a d:ByteArray}{j k:Fl}{b e:Lq}(h: ab prog 108 [.agg [pS a,.list 1 .sh b],.agg [pS d,.list 1 .sh e]] u0 λm f=> ∃i,m=(pB i)/\ ae (!i) (ab prog 108 [.agg [pS d,.list 1 .sh e],.agg [pS a,.list 1 .sh b]] f λn l=> ∃g,n=(pB g)/\ K (pB (!g)) l) (K (pB false) f)):ab prog 64 [.agg [pS a,.list 1 j b],.agg [pS d,.list 1 k e]] u0 K:= VC [2,3] [] [] [] [] [] [] func64 h
theorem fQ.c{a:Option Addr}{b:Int}(h: ab prog 113 [pA a,pI b] u0 λf e=> ∃g d,f=(.aC [pI g,pB d])/\ K (pB d) e):ab prog 65 [pA a,pI b] u0 K:= VC [] [] [] [] [] [] [] func65 h
theorem nD.c{f g:ByteArray}{r s:Fl}{b d:Lq}(h: ae (Op.bytesLess (ByteArray.toList f) (ByteArray.toList g)) (K (pI (-1)) u0) (ae (!(Op.bytesLess (ByteArray.toList f) (ByteArray.toList g)||aG f g)) (K (pI 1) u0) (cw (α:=Unit) (λi=> aj (α:=Int) (λt a e=> ae (decide (a<((List.length b:Nat):Int))) (ae (decide (a<((List.length d:Nat):Int))) (0<=a/\∃(j:List PV),(b)[Int.toNat a]?=some j/\ ∃n,aA j 0 1=some [pI n]/\ 0<=a/\∃(k:List PV),(d)[Int.toNat a]?=some k/\ ∃o,aA k 0 1=some [pI o]/\ ae (decide (n<o)) (K (pI (-1)) e) (0<=a/\∃(l:List PV),(b)[Int.toNat a]?=some l/\ ∃p,aA l 0 1=some [pI p]/\ 0<=a/\∃(m:List PV),(d)[Int.toNat a]?=some m/\ ∃q,aA m 0 1=some [pI q]/\ ae (decide (p>q)) (K (pI 1) e) (t (IntKind.wrap .i64 (a+1)) e))) (i () e)) (i () e)) (0) u0) (λv u=> K (pI (IntKind.wrap .i64 (((List.length b:Nat):Int)-((List.length d:Nat):Int)))) u)))):ab prog 66 [.agg [pS f,.list 1 r b],.agg [pS g,.list 1 s d]] u0 K:= VC [2,3] [(6,⟨[(5,.one (.raw (.int .i64)))],[]⟩)] [(12,⟨[],[]⟩)] [] [] [] [] func66 h
theorem kP.c{n:Fl}{d:Lq}{b e:Int}(h: ae (decide (e>20)) (K (pI (IntKind.wrap .i64 (b+1))) u0) (cw (α:=Int) (λg=> aj (α:=Int×Int) (λo a f=> ae (decide (a.2<((List.length d:Nat):Int))) (ae (decide (a.1<=b)) (0<=a.2/\∃(i:List PV),(d)[Int.toNat a.2]?=some i/\ ∃l k,aA i 6 1=some [.list 7 l k]/\ ab prog 104 [.list 7 l k,pI b,pI (IntKind.wrap .i64 (e+1))] f λr q=> ∃m,r=(pI m)/\ o ((IntKind.wrap .i64 (a.1+(IntKind.wrap .i64 (1+m)))),(IntKind.wrap .i64 (a.2+1))) q) (g a.1 f)) (g a.1 f)) (0,0) u0) (λj p=> K (pI (if(IntKind.wrap .i64 (b+1))<j then(IntKind.wrap .i64 (b+1))else j)) p))):ab prog 104 [.list 7 n d,pI b,pI e] u0 K:= VC [] [(5,⟨[(7,.one (.raw (.int .i64))),(8,.one (.raw (.int .i64)))],[]⟩)] [(8,⟨[(7,.one (.raw (.int .i64)))],[]⟩)] [] [] [] [] func104 h
theorem gy.c{t:Fl}{d:Lq}(h: aj (α:=Int) (λu b a=> ae (decide (b<((List.length d:Nat):Int))) (0<=b/\∃(g:List PV),(d)[Int.toNat b]?=some g/\ ∃y z l m e n f A p o,aA g 0 7=some [pI y,pB z,pS l,.list 6 m e,.list 6 n f,pB A,.list 7 p o]/\ ae (decide ((((ByteArray.size l:Nat):Int):Int)>100)) (K (pB true) a) (ae (decide (((List.length e:Nat):Int)>10)) (K (pB true) a) (ae (decide (((List.length f:Nat):Int)>10)) (K (pB true) a) (ab prog 153 [.list 6 m e] a λv i=> ∃q,v=(pB q)/\ ae q (K (pB true) i) (ab prog 153 [.list 6 n f] i λw j=> ∃r,w=(pB r)/\ ae r (K (pB true) j) (ab prog 105 [.list 7 p o] j λx k=> ∃s,x=(pB s)/\ ae s (K (pB true) k) (u (IntKind.wrap .i64 (b+1)) k))))))) (K (pB false) a)) (0) u0):ab prog 105 [.list 7 t d] u0 K:= VC [4] [(2,⟨[(3,.one (.raw (.int .i64)))],[]⟩)] [] [] [] [] [] func105 h
theorem wU.c{l:ByteArray}{m R:Fl}{e f:Lq}(h: ab prog 154 [.agg [pS l,.list 7 .sh e,.list 19 .sh f]] u0 λU g=> ∃t k,U=(.aC [pI t,pI k])/\ ae (k != 0) (K (.aC [pI t,pI k,.list 1 .nil []]) g) ((0:Int)<=0/\∃(o:List PV),(e)[Int.toNat 0]?=some o/\ ∃u,aA o 0 1=some [pI u]/\ ae (u != 1) (K (.aC [pI 0,pI 9,.list 1 .nil []]) g) (ab prog 155 [.list 1 .nil []] g λV S=> ∃v,V=(pA v)/\ ca S 275 [pA v,.list 1 .nil []] λb T=> ab prog 156 [pP b 0,.list 7 m e,pI 0] T λW q=> ∃d w,W=(.aC [pI d,pB w])/\ ae (!w) (K (.aC [pI d,pI 6,.list 1 .nil []]) q) (aj (α:=Int) (λn a i=> ae (decide (a<((List.length f:Nat):Int))) (0<=a/\∃(p:List PV),(f)[Int.toNat a]?=some p/\ ∃a0 x y z A B C D E F G H I J a1 a2 a3 a4 a5,aA p 0 19=some [pS a0,pS x,pI y,pS z,pI A,pI B,pS C,pI D,pS E,pI F,pS G,pI H,pS I,pI J,pI a1,pS a2,pI a3,pS a4,pI a5]/\ ab prog 157 [pP b 0,.agg [pS x,pI y,pS z,pI A]] i λX j=> ∃L,X=(pB L)/\ ae L (K (.aC [pI (IntKind.wrap .i64 (d+a)),pI 6,.list 1 .nil []]) j) (ae (B != 0) (ab prog 157 [pP b 0,.agg [pS C,pI D,pS E,pI F]] j λY r=> ∃M,Y=(pB M)/\ ae M (K (.aC [pI (IntKind.wrap .i64 (d+a)),pI 6,.list 1 .nil []]) r) (ab prog 157 [pP b 0,.agg [pS G,pI H,pS I,pI J]] r λZ s=> ∃N,Z=(pB N)/\ ae N (K (.aC [pI (IntKind.wrap .i64 (d+a)),pI 6,.list 1 .nil []]) s) (n (IntKind.wrap .i64 (a+1)) s))) (n (IntKind.wrap .i64 (a+1)) j))) (∃O Q P,aN i b 1 1=some [pV O Q P]/\ K (.aC [pI (-1),pI 0,pV O Q P]) i)) (0) q)))):ab prog 106 [.agg [pS l,.list 7 m e,.list 19 R f]] u0 K:= VC [1,10] [(11,⟨[(42,.one (.raw (.int .i64)))],[]⟩)] [] [] [] [] [78] func106 h
theorem pq.c{k:ByteArray}{b m e:Fl}{a l d:Lq}{f:Int}(h: ca u0 182 [pV none 0 0,pI f,pB false] λg n=> ab prog 158 [.list 7 b a,pI 0,.list 3 .nr [[.list 1 .sh [],.list 4 .sh [],pI 0]],.list 12 e d,pP g 0] n λp o=> ∃j i,p=(.list 3 j i)/\ K (.aC [.list 3 j i,pP g 0]) o):ab prog 107 [.agg [pS k,.list 7 b a,.list 19 m l],.list 12 e d,pI f] u0 K:= VC [3] [] [] [] [] [] [2011000] func107 h
theorem pw.c{a b:ByteArray}{e g:Fl}{d f:Lq}(h: ae (!aG a b) (K (pB (Op.bytesLess (ByteArray.toList a) (ByteArray.toList b))) u0) (ab prog 159 [.list 1 e d,.list 1 g f] u0 λk j=> ∃i,k=(pB i)/\ K (pB i) j)):ab prog 108 [.agg [pS a,.list 1 e d],.agg [pS b,.list 1 g f]] u0 K:= VC [2,3] [] [] [] [] [] [] func108 h
theorem zI.c{a:Fn}{b d e f g i:List PV}(h: ∃k j,aA e 0 1=some [.list 7 k j]/\ ∃m l,aA f 0 1=some [.list 12 m l]/\ ∃o n,aA g 0 1=some [.list 1 o n]/\ ∃q p,aA i 0 1=some [.list 4 q p]/\ ab prog 112 [.list 7 k j,.list 12 m l,.list 1 o n,.list 4 q p,.fn a b d] u0 λs r=> ∃t,s=(pB t)/\ K (.aC []) r):ab prog 111 [.fn a b d,.bl e 0,.bl f 0,.bl g 0,.bl i 0] u0 K:= VC [] [] [] [] [] [] [] func111 h
theorem DE.c{D F H f:Fl}{C E G e:Lq}{I:Fn}{J L:List PV}(h: ca u0 50 [.list 7 D C] λo e8=> ca e8 22 [.list 12 F E] λk e9=> ca e9 63 [.list 1 H G] λl f5=> ca f5 190 [.fn I J L] λr f8=> ca f8 4 [pB false] λb a=> ∃h2 Z,aN a o 0 1=some [.list 7 h2 Z]/\ ae (((List.length Z:Nat):Int) == 0) (∃a0 a1 a2,aN a r 0 1=some [.fn a0 a1 a2]/\ ∃a4 a3,aN a l 0 1=some [.list 1 a4 a3]/\ bc prog (.fn a0 a1 a2) [.list 1 a4 a3,.list 4 f e] a λg2 f9=> ∃a5,g2=(pB a5)/\ stM b 0 [pB a5] f9 λY=> ∃M,aN Y b 0 1=some [pB M]/\ K (pB M) Y) (∃h3 a6,aN a o 0 1=some [.list 7 h3 a6]/\ (0:Int)<=0/\∃(S:List PV),(a6)[Int.toNat 0]?=some S/\ ∃n u v h4 w h5 x y a7 p,aA S 0 7=some [pI n,pB u,pS v,.list 6 h4 w,.list 6 h5 x,pB y,.list 7 a7 p]/\ cw (α:=Unit) (λA=> ae (n == 1) (∃b2 b1,aN a k 0 1=some [.list 12 b2 b1]/\ dg prog 35 [.list 12 b2 b1] a λg3 g0=> ∃b3 b4 b5,g3=(.fn b3 b4 b5)/\ ab prog 160 [.agg [pI n,pB u,pS v,.list 6 .sh w,.list 6 .sh x,pB y,.list 7 .sh p],.fn b3 b4 b5,.list 4 f e] (Mem.or a g0) λg4 g1=> ∃b6 b7 b8,g4=(.fn b6 b7 b8)/\ bJ prog (.fn b6 b7 b8) (λh0 B d=> ∃h6 h7 h8 h9 i0 i1 i2 i3 i4 i5 i6 z c0 b9,h0=[.agg [pI h6,pS h7,pI h8,pI h9,pS i0,pI i1,pI i2,pS i3,pI i4,pB i5,pB i6,pI z],.list 4 c0 b9]/\ ∃i7 g,aN d o 0 1=some [.list 7 i7 g]/\ (0:Int)<=1/\1<=((List.length g:Nat):Int)/\((List.length g:Nat):Int)<=((List.length g:Nat):Int)/\ ∃c2 c1,aN d k 0 1=some [.list 12 c2 c1]/\ ∃i8 q,aN d l 0 1=some [.list 1 i8 q]/\ ∃i9 i,aN d l 0 1=some [.list 1 i9 i]/\ ∃j0 c3,aN d l 0 1=some [.list 1 j0 c3]/\ (0:Int)<=(0:Int)/\0<=((List.length i:Nat):Int)/\((List.length i:Nat):Int)<=((List.length q:Nat):Int)/\((List.length c3:Nat):Int)=((List.length i:Nat):Int)/\ ∃c4 c5 c6,aN d r 0 1=some [.fn c4 c5 c6]/\ bF true 1 8 .nr (List.drop (Int.toNat (0:Int)) (List.take (Int.toNat ((List.length i:Nat):Int)) q)) [[pI z]] d λe5 f0=> ab prog 112 [.list 7 .sh (List.drop (Int.toNat 1) (List.take (Int.toNat ((List.length g:Nat):Int)) g)),.list 12 c2 c1,.list 1 e5 ((List.drop (Int.toNat (0:Int)) (List.take (Int.toNat ((List.length i:Nat):Int)) q))++[[pI z]]),.list 4 c0 b9,.fn c4 c5 c6] f0 λg5 T=> ∃c7,g5=(pB c7)/\ ae (!c7) (stM b 0 [pB false] T λf1=> B (some .ret) f1) (B none T)) (λe6 s=> PK e6 (stM b 0 [pB true] s λU=> ∃N,aN U b 0 1=some [pB N]/\ K (pB N) U) (∃O,aN s b 0 1=some [pB O]/\ K (pB O) s) []) g1) (ae (n == 2) (∃c9 c8,aN a k 0 1=some [.list 12 c9 c8]/\ dg prog 35 [.list 12 c9 c8] a λg6 f2=> ∃d0 d1 d2,g6=(.fn d0 d1 d2)/\ ab prog 160 [.agg [pI n,pB u,pS v,.list 6 .sh w,.list 6 .sh x,pB y,.list 7 .sh p],.fn d0 d1 d2,.list 4 f e] (Mem.or a f2) λg7 f3=> ∃d3 d4 d5,g7=(.fn d3 d4 d5)/\ bJ prog (.fn d3 d4 d5) (λh1 e4 f4=> ∃j1 j2 j3 j4 j5 j6 j7 j8 j9 k0 k1 k2 k4 k3,h1=[.agg [pI j1,pS j2,pI j3,pI j4,pS j5,pI j6,pI j7,pS j8,pI j9,pB k0,pB k1,pI k2],.list 4 k4 k3]/\ stM b 0 [pB true] f4 λf6=> e4 (some .ret) f6) (λe7 t=> PK e7 (A () t) (∃P,aN t b 0 1=some [pB P]/\ K (pB P) t) []) f3) (∃a9 a8,aN a k 0 1=some [.list 12 a9 a8]/\ ab prog 161 [.list 7 a7 p,.list 12 a9 a8,.list 4 f e] a λg8 V=> ∃b0,g8=(pB b0)/\ ae (!b0) (stM b 0 [pB true] V λW=> ∃Q,aN W b 0 1=some [pB Q]/\ K (pB Q) W) (A () V)))) (λk6 m=> ∃k5 j,aN m o 0 1=some [.list 7 k5 j]/\ (0:Int)<=1/\1<=((List.length j:Nat):Int)/\((List.length j:Nat):Int)<=((List.length j:Nat):Int)/\ ∃d7 d6,aN m k 0 1=some [.list 12 d7 d6]/\ ∃d9 d8,aN m l 0 1=some [.list 1 d9 d8]/\ ∃e0 e1 e2,aN m r 0 1=some [.fn e0 e1 e2]/\ ab prog 112 [.list 7 .sh (List.drop (Int.toNat 1) (List.take (Int.toNat ((List.length j:Nat):Int)) j)),.list 12 d7 d6,.list 1 d9 d8,.list 4 f e,.fn e0 e1 e2] m λg9 f7=> ∃e3,g9=(pB e3)/\ stM b 0 [pB e3] f7 λX=> ∃R,aN X b 0 1=some [pB R]/\ K (pB R) X))):ab prog 112 [.list 7 D C,.list 12 F E,.list 1 H G,.list 4 f e,.fn I J L] u0 K:= VC [11,12] [] [(17,⟨[],[]⟩)] [(39,[60,183]),(65,[60,183])] [] [] [] func112 h
theorem mc.c{l:Fl}{b:Lq}(h: aj (α:=Int) (λm a d=> ae (decide (a<((List.length b:Nat):Int))) (0<=a/\∃(e:List PV),(b)[Int.toNat a]?=some e/\ ∃n i,aA e 5 1=some [.list 3 n i]/\ ae (decide (((List.length i:Nat):Int)>20)) (K (pB true) d) (0<=a/\∃(f:List PV),(b)[Int.toNat a]?=some f/\ ∃j,aA f 1 1=some [pS j]/\ ae (decide ((((ByteArray.size j:Nat):Int):Int)>100)) (K (pB true) d) (0<=a/\∃(g:List PV),(b)[Int.toNat a]?=some g/\ ∃k,aA g 3 1=some [pS k]/\ ae (decide ((((ByteArray.size k:Nat):Int):Int)>100)) (K (pB true) d) (m (IntKind.wrap .i64 (a+1)) d)))) (K (pB false) d)) (0) u0):ab prog 153 [.list 6 l b] u0 K:= VC [] [(2,⟨[(3,.one (.raw (.int .i64)))],[]⟩)] [] [] [] [] [] func153 h
theorem AE.c{m:ByteArray}{j S:Fl}{i b:Lq}(h: ab prog 208 [pS m] u0 λa0 o=> ∃q,a0=(pB q)/\ ae (!q) (K (.aC [pI (-1),pI 2]) o) (ca o 3 [pI 0] λd U=> stM d 0 [pI 0] U λV=> ab prog 209 [.list 7 j i,pI 0,pI 0,.fn (.func 210) [] [pP d 0]] V λa1 a=> ∃a4 a5,a1=(.aC [pI a4,pB a5])/\ ∃r,aN a d 0 1=some [pI r]/\ ae (decide (r<1)) (K (.aC [pI (-1),pI 7]) a) (∃s,aN a d 0 1=some [pI s]/\ ae (decide (s>16)) (K (.aC [pI (-1),pI 7]) a) (ae (decide (((List.length b:Nat):Int)<1)) (K (.aC [pI (-1),pI 7]) a) (ae (decide (((List.length b:Nat):Int)>16)) (K (.aC [pI (-1),pI 7]) a) (ca a 3 [pI 0] λk W=> ca W 78 [pI 0] λg X=> stM k 0 [pI (-1)] X λY=> stM g 0 [pI 0] Y λZ=> ab prog 209 [.list 7 j i,pI 0,pI 0,.fn (.func 211) [] [pP g 0,pP k 0]] Z λa2 f=> ∃a6 a7,a2=(.aC [pI a6,pB a7])/\ ∃t,aN f g 0 1=some [pI t]/\ ae (t != 0) (∃u,aN f k 0 1=some [pI u]/\ ∃v,aN f g 0 1=some [pI v]/\ K (.aC [pI u,pI v]) f) (aj (α:=Int) (λT e p=> ae (decide (e<((List.length b:Nat):Int))) (0<=e/\∃(n:List PV),(b)[Int.toNat e]?=some n/\ ∃w x y z A B C D E F G H I J L M N O P,aA n 0 19=some [pS w,pS x,pI y,pS z,pI A,pI B,pS C,pI D,pS E,pI F,pS G,pI H,pS I,pI J,pI L,pS M,pI N,pS O,pI P]/\ ab prog 213 [.agg [pS w,pS x,pI y,pS z,pI A,pI B,pS C,pI D,pS E,pI F,pS G,pI H,pS I,pI J,pI L,pS M,pI N,pS O,pI P]] p λa3 l=> ∃Q,a3=(pB Q)/\ ae (!Q) (∃R,aN l d 0 1=some [pI R]/\ K (.aC [pI (IntKind.wrap .i64 (R+e)),pI 9]) l) (T (IntKind.wrap .i64 (e+1)) l)) (K (.aC [pI (-1),pI 0]) p)) (0) f))))))):ab prog 154 [.agg [pS m,.list 7 j i,.list 19 S b]] u0 K:= VC [1,8] [(12,⟨[(46,.one (.raw (.int .i64)))],[]⟩)] [] [] [] [] [] func154 h
theorem mO.c{i:Fl}{b:Lq}(h: ca u0 398 [.list 1 .nil [],pB false] λd k=> aj (α:=Int) (λj a f=> ae (decide (a<((List.length b:Nat):Int))) (0<=a/\∃(e:List PV),(b)[Int.toNat a]?=some e/\ ∃g,aA e 0 1=some [pS g]/\ ab prog 214 [pP d 0,pS g] f λm l=> ∃n,m=(pB n)/\ j (IntKind.wrap .i64 (a+1)) l) (K (pP d 0) f)) (0) k):ab prog 155 [.list 1 i b] u0 K:= VC [] [(3,⟨[(10,.one (.raw (.int .i64)))],[]⟩)] [] [] [] [] [] func155 h
theorem jl.c{d:Option Addr}{A:Fl}{e:Lq}{k:Int}(h: aj (α:=Int×Int) (λl a f=> ae (decide (a.2<((List.length e:Nat):Int))) (0<=a.2/\∃(m:List PV),(e)[Int.toNat a.2]?=some m/\ ∃b r s F t G u v w g,aA m 0 7=some [pI b,pB r,pS s,.list 6 F t,.list 6 G u,pB v,.list 7 w g]/\ cw (α:=Option Addr) (λj=> ae (b != 1) (ab prog 215 [pA d] f λC B=> ∃x,C=(pA x)/\ j x B) (j d f)) (λn o=> ae (b == 3) (ab prog 156 [pA n,.list 7 w g,pI (IntKind.wrap .i64 (a.1+1))] o λD p=> ∃i y,D=(.aC [pI i,pB y])/\ ae (!y) (K (.aC [pI i,pB false]) p) (l (i,(IntKind.wrap .i64 (a.2+1))) p)) (ab prog 216 [pA n,.agg [pI b,pB r,pS s,.list 6 .sh t,.list 6 .sh u,pB v,.list 7 .sh g]] o λE q=> ∃z,E=(pB z)/\ ae (!z) (K (.aC [pI a.1,pB false]) q) (l ((IntKind.wrap .i64 (a.1+1)),(IntKind.wrap .i64 (a.2+1))) q)))) (K (.aC [pI a.1,pB true]) f)) (k,0) u0):ab prog 156 [pA d,.list 7 A e,pI k] u0 K:= VC [9] [(2,⟨[(2,.one (.raw (.int .i64))),(15,.one (.raw (.int .i64)))],[]⟩)] [(7,⟨[(10,.one (.raw .ptr))],[]⟩)] [] [] [] [] func156 h
theorem qB.c{b:Option Addr}{a f:ByteArray}{e g:Int}(h: ae (!aG a ⟨#[]⟩) (ab prog 217 [pA b,pS a] u0 λj i=> ∃d,j=(pB d)/\ K (pB (!d)) i) (K (pB false) u0)):ab prog 157 [pA b,.agg [pS a,pI e,pS f,pI g]] u0 K:= VC [3] [] [] [] [] [] [] func157 h
theorem vH.c{A j l:Fl}{b i k:Lq}{g:Int}{d:Option Addr}(h: aj (α:=Int×(Fl×Lq)×Int) (λC a e=> ae (decide (a.2.2<((List.length b:Nat):Int))) (nP d λB D=> ∃o,aN e B (D+2) 1=some [pB o]/\ ae (!o) (0<=a.2.2/\∃(m:List PV),(b)[Int.toNat a.2.2]?=some m/\ ∃p q r L s M t u N v,aA m 0 7=some [pI p,pB q,pS r,.list 6 L s,.list 6 M t,pB u,.list 7 N v]/\ ab prog 218 [.agg [pI p,pB q,pS r,.list 6 .sh s,.list 6 .sh t,pB u,.list 7 .sh v],pI a.1,.list 3 a.2.1.1 a.2.1.2,.list 12 l k,pA d] e λH E=> ∃w f,H=(.list 3 w f)/\ ab prog 219 [pA d,pI a.1,pI ((List.length f:Nat):Int)] E λI F=>
 I=(.aC [])/\ 0<=a.2.2/\∃(n:List PV),(b)[Int.toNat a.2.2]?=some n/\ ∃y x,aA n 6 1=some [.list 7 y x]/\ ab prog 220 [.list 7 y x] F λJ G=> ∃z,J=(pI z)/\ C ((IntKind.wrap .i64 (a.1+(IntKind.wrap .i64 (1+z)))),(w,f),(IntKind.wrap .i64 (a.2.2+1))) G) (K (.list 3 a.2.1.1 a.2.1.2) e)) (K (.list 3 a.2.1.1 a.2.1.2) e)) (g,(j,i),0) u0):ab prog 158 [.list 7 A b,pI g,.list 3 j i,.list 12 l k,pA d] u0 K:= VC [] [(2,⟨[(1,.one (.raw (.int .i64))),(2,.one (.list 3)),(11,.one (.raw (.int .i64)))],[]⟩)] [] [] [] [] [] func158 h
theorem sx.c{p q:Fl}{b d:Lq}(h: cw (α:=Unit) (λf=> aj (α:=Int) (λr a e=> ae (decide (a<((List.length b:Nat):Int))) (ae (decide (a<((List.length d:Nat):Int))) (0<=a/\∃(g:List PV),(b)[Int.toNat a]?=some g/\ ∃l,aA g 0 1=some [pI l]/\ 0<=a/\∃(i:List PV),(d)[Int.toNat a]?=some i/\ ∃m,aA i 0 1=some [pI m]/\ ae (l != m) (0<=a/\∃(j:List PV),(b)[Int.toNat a]?=some j/\ ∃n,aA j 0 1=some [pI n]/\ 0<=a/\∃(k:List PV),(d)[Int.toNat a]?=some k/\ ∃o,aA k 0 1=some [pI o]/\ K (pB (decide (n<o))) e) (r (IntKind.wrap .i64 (a+1)) e)) (f () e)) (f () e)) (0) u0) (λt s=> K (pB (decide (((List.length b:Nat):Int)<((List.length d:Nat):Int)))) s)):ab prog 159 [.list 1 p b,.list 1 q d] u0 K:= VC [] [(2,⟨[(5,.one (.raw (.int .i64)))],[]⟩)] [(6,⟨[],[]⟩)] [] [] [] [] func159 h
theorem Gp.c{b:Int}{d i:Bool}{e:ByteArray}{u v w o:Fl}{f g j n:Lq}{k:Fn}{l m:List PV}(h: ca u0 183 [.list 4 o n] λa p=> ∃r q,aN p a 0 1=some [.list 4 r q]/\ ab prog 221 [.list 4 r q] p λz x=> ∃t s,z=(.list 4 t s)/\ stM a 0 [.list 4 t s] x λy=> K (.fn (.func 222) [] [.bl [.fn k l m] 0,.bl [pI b,pB d,pS e,.list 6 .sh f,.list 6 .sh g,pB i,.list 7 .sh j] 0,pP a 0]) y):ab prog 160 [.agg [pI b,pB d,pS e,.list 6 u f,.list 6 v g,pB i,.list 7 w j],.fn k l m,.list 4 o n] u0 K:= VC [] [] [] [] [3,4] [] [] func160 h
theorem DB.c{e g j:Fl}{d f i:Lq}(h: ca u0 4 [pB false] λa s=> ab prog 58 [.list 7 e d,.list 12 g f,.list 1 .nil [],.list 4 j i] s λw t=> ∃n o p,w=(.fn n o p)/\ bJ prog (.fn n o p) (λx q u=> ∃z y B A,x=[.list 1 z y,.list 4 B A]/\ stM a 0 [pB false] u λv=> q (some .ret) v) (λr b=> PK r (stM a 0 [pB true] b λm=> ∃k,aN m a 0 1=some [pB k]/\ K (pB k) m) (∃l,aN b a 0 1=some [pB l]/\ K (pB l) b) []) t):ab prog 161 [.list 7 e d,.list 12 g f,.list 4 j i] u0 K:= VC [] [] [] [(11,[63,183])] [] [] [] func161 h
end Go.Proofs.YtbkejjmjopgpoaaGreat
namespace Go.Proofs.YtbkejjmjopgpoaaGreat
open Go.Proofs.Tryz Go.az
variable {u0:Mem} {K:Kq}
set_option maxRecDepth 100000
theorem Jq.c{b:ByteArray}(h: ae (decide ((((ByteArray.size b:Nat):Int):Int)<1)) (K (pB false) u0) (ae (decide ((((ByteArray.size b:Nat):Int):Int)>32)) (K (pB false) u0) ((0:Int)<=0/\∃c14:UInt8,b[Int.toNat 0]?=some c14/\ ab prog 294 [.raw (.int .u8 ((UInt8.toNat c14:Nat):Int))] u0 λm f=> ∃j,m=(pB j)/\ ae (!j) (K (pB false) f) (aj (α:=Int) (λd a g=> ae (decide (a<((ByteArray.size b:Nat):Int))) (0<=a/\∃c26:UInt8,b[Int.toNat a]?=some c26/\ ab prog 294 [.raw (.int .u8 ((UInt8.toNat c26:Nat):Int))] g λn i=> ∃k,n=(pB k)/\ ae (!k) (0<=a/\∃c32:UInt8,b[Int.toNat a]?=some c32/\ ab prog 295 [.raw (.int .u8 ((UInt8.toNat c32:Nat):Int))] i λo e=> ∃l,o=(pB l)/\ ae (!l) (0<=a/\∃c39:UInt8,b[Int.toNat a]?=some c39/\ ae ((((UInt8.toNat c39:Nat):Int):Int) != 45) (0<=a/\∃c45:UInt8,b[Int.toNat a]?=some c45/\ ae ((((UInt8.toNat c45:Nat):Int):Int) != 95) (K (pB false) e) (d (IntKind.wrap .i64 (a+1)) e)) (d (IntKind.wrap .i64 (a+1)) e)) (d (IntKind.wrap .i64 (a+1)) e)) (d (IntKind.wrap .i64 (a+1)) i)) (K (pB true) g)) (1) f)))):ab prog 208 [pS b] u0 K:= VC [] [(4,⟨[(3,.one (.raw (.int .i64)))],[]⟩)] [] [] [] [] [] func208 h
theorem uc.c{y:Fl}{b:Lq}{k d:Int}{e:Fn}{f g:List PV}(h: aj (α:=Int×Int) (λz a m=> ae (decide (a.2<((List.length b:Nat):Int))) (0<=a.2/\∃(l:List PV),(b)[Int.toNat a.2]?=some l/\ ∃p q r C s D t u v i,aA l 0 7=some [pI p,pB q,pS r,.list 6 C s,.list 6 D t,pB u,.list 7 v i]/\ bc prog (.fn e f g) [pI a.1,pI d,.agg [pI p,pB q,pS r,.list 6 .sh s,.list 6 .sh t,pB u,.list 7 .sh i]] m λA n=> ∃w,A=(pB w)/\ ae (!w) (K (.aC [pI a.1,pB false]) n) (ab prog 209 [.list 7 v i,pI (IntKind.wrap .i64 (a.1+1)),pI (IntKind.wrap .i64 (d+1)),.fn e f g] n λB o=> ∃j x,B=(.aC [pI j,pB x])/\ ae (!x) (K (.aC [pI j,pB false]) o) (z (j,(IntKind.wrap .i64 (a.2+1))) o))) (K (.aC [pI a.1,pB true]) m)) (k,0) u0):ab prog 209 [.list 7 y b,pI k,pI d,.fn e f g] u0 K:= VC [11] [(2,⟨[(1,.one (.raw (.int .i64))),(15,.one (.raw (.int .i64)))],[]⟩)] [] [] [] [] [] func209 h
theorem wW.c{b f g:Int}{i o:Bool}{j:ByteArray}{l n q:Fl}{k m p:Lq}{a:Nat}(h: stM a 0 [pI (IntKind.wrap .i64 (b+1))] u0 λd=> ∃e,aN d a 0 1=some [pI e]/\ K (pB (decide (e<=16))) d):ab prog 210 [pI b,pI f,.agg [pI g,pB i,pS j,.list 6 l k,.list 6 n m,pB o,.list 7 q p],pP a 0] u0 K:= VC [6] [] [] [] [] [] [] func210 h
theorem wV.c{d e f:Int}{g l:Bool}{i:ByteArray}{t u v:Fl}{j k m:Lq}{a n:Nat}(h: ab prog 212 [.agg [pI f,pB g,pS i,.list 6 .sh j,.list 6 .sh k,pB l,.list 7 .sh m],pI e] u0 λx w=> ∃p,x=(pI p)/\ stM a 0 [pI p] w λb=> ∃q,aN b a 0 1=some [pI q]/\ ae (q != 0) (stM n 0 [pI d] b λo=> ∃r,aN o a 0 1=some [pI r]/\ K (pB (r == 0)) o) (∃s,aN b a 0 1=some [pI s]/\ K (pB (s == 0)) b)):ab prog 211 [pI d,pI e,.agg [pI f,pB g,pS i,.list 6 t j,.list 6 u k,pB l,.list 7 v m],pP a 0,pP n 0] u0 K:= VC [7] [] [] [] [] [] [] func211 h
theorem Dx.c{a n:Int}{j m:Bool}{f:ByteArray}{k l u:Fl}{b e g:Lq}(h: cw (α:=Unit) (λi=> ae (a == 3) (ae j (K (pI 9) u0) (ae (!aG f ⟨#[]⟩) (K (pI 9) u0) (ae (decide (((List.length b:Nat):Int)>0)) (K (pI 9) u0) (ae (decide (((List.length e:Nat):Int)>0)) (K (pI 9) u0) (ae m (K (pI 9) u0) (ae (((List.length g:Nat):Int) == 0) (K (pI 9) u0) (ae (decide (n>=3)) (K (pI 8) u0) (K (pI 0) u0)))))))) (ae (a == 1) (ae (a == 1) (i () u0) (K (pI 9) u0)) (ae (a == 2) (i () u0) (K (pI 9) u0)))) (λy o=> ae (decide (((List.length g:Nat):Int)>0)) (K (pI 9) o) (ab prog 208 [pS f] o λv d=> ∃r,v=(pB r)/\ ae (!r) (K (pI 9) d) (ae (((List.length b:Nat):Int) == 0) (K (pI 9) d) (ae (decide (((List.length b:Nat):Int)>4)) (K (pI 7) d) (ae (decide (((List.length e:Nat):Int)>4)) (K (pI 7) d) (ab prog 296 [.list 6 k b] d λw p=> ∃s,w=(pB s)/\ ae (!s) (K (pI 9) p) (ab prog 296 [.list 6 l e] p λx q=> ∃t,x=(pB t)/\ ae (!t) (K (pI 9) q) (K (pI 0) q))))))))):ab prog 212 [.agg [pI a,pB j,pS f,.list 6 k b,.list 6 l e,pB m,.list 7 u g],pI n] u0 K:= VC [2] [] [(11,⟨[],[]⟩)] [] [] [] [] func212 h
theorem Gw.c{i j l o q s u d f:ByteArray}{k m n p r t v a e g:Int}(h: ab prog 208 [pS i] u0 λH w=> ∃E,H=(pB E)/\ ae (!E) (K (pB false) w) (ab prog 297 [.agg [pS j,pI k,pS l,pI m]] w λI x=> ∃z,I=(pB z)/\ ae (!z) (K (pB false) x) (ab prog 298 [.agg [pI n,pS o,pI p,pS q,pI r,pS s,pI t,pS u,pI v]] x λJ b=> ∃A,J=(pB A)/\ ae (!A) (K (pB false) b) (ae (decide (a<1)) (K (pB false) b) (ae (decide (a>10)) (K (pB false) b) (ab prog 299 [pI a] b λL y=> ∃B,L=(pB B)/\ ae B (ab prog 297 [.agg [pS d,pI e,pS f,pI g]] y λM F=> ∃C,M=(pB C)/\ K (pB C) F) (ab prog 300 [.agg [pS d,pI e,pS f,pI g]] y λN G=> ∃D,N=(pB D)/\ K (pB D) G))))))):ab prog 213 [.agg [pS i,pS j,pI k,pS l,pI m,pI n,pS o,pI p,pS q,pI r,pS s,pI t,pS u,pI v,pI a,pS d,pI e,pS f,pI g]] u0 K:= VC [1] [] [] [] [] [] [] func213 h
theorem km.c{a:Option Addr}{f:ByteArray}(h: ae (Option.isNone a) (K (pB false) u0) (ab prog 301 [pA a,pS f] u0 λW g=> ∃e k,W=(.aC [pI e,pB k])/\ ae k (K (pB false) g) (ab prog 302 [pA a] g λX i=>
 X=(.aC [])/\ nP a λw G=> ∃l n m,aN i w G 1=some [pV l n m]/\ iw 1 16 273 l n m (.list 1 .nr [[pS f]]) i λQ S R T=> nP a λx H=> stM x H [pV Q S R] T λj=> nP a λy I=> ∃Y o Z,aN j y I 1=some [pV Y o Z]/\ aj (α:=Int) (λF b d=> ae (decide (b>e)) (nP a λz J=> ∃p q a0,aN d z J 1=some [pV p q a0]/\ nP a λA L=> ∃r s a1,aN d A L 1=some [pV r s a1]/\ bR r λB M=> 0<=(IntKind.wrap .i64 (b-1))/\(IntKind.wrap .i64 (b-1))<((s:Nat):Int)/\ ∃t,aN d B (M+Int.toNat (IntKind.wrap .i64 (b-1))*1) 1=some [pS t]/\ bR p λC N=> 0<=b/\b<((q:Nat):Int)/\ stM C (N+Int.toNat b*1) [pS t] d λU=> F (IntKind.wrap .i64 (b-1)) U) (nP a λD O=> ∃u v a2,aN d D O 1=some [pV u v a2]/\ bR u λE P=> 0<=e/\e<((v:Nat):Int)/\ stM E (P+Int.toNat e*1) [pS f] d λV=> K (pB true) V)) (IntKind.wrap .i64 (((o:Nat):Int)-1)) j))):ab prog 214 [pA a,pS f] u0 K:= VC [] [(9,⟨[(7,.one (.raw (.int .i64)))],[]⟩)] [] [] [] [] [23,32,43,48,57] func214 h
theorem qC.c{a:Option Addr}(h: nP a λe g=> ∃b,aN u0 e g 1=some [pA b]/\ ab prog 303 [pA b] u0 λk i=> ∃d,k=(pA d)/\ ca i 275 [pA d,.list 1 .nil []] λf j=> K (pP f 0) j):ab prog 215 [pA a] u0 K:= VC [] [] [] [] [] [] [] func215 h
theorem ud.c{a:Option Addr}{p:Int}{e q:Bool}{b:ByteArray}{g j s:Fl}{f i r:Lq}(h: cw (α:=Unit) (λd=> ae e (ab prog 304 [pA a,pS b] u0 λw u=>
 w=(.aC [])/\ d () u) (d () u0)) (λA t=> ab prog 217 [pA a,pS b] t λx k=> ∃m,x=(pB m)/\ ae m (ab prog 305 [pA a,.list 6 g f] k λy l=> ∃n,y=(pB n)/\ ae n (ab prog 305 [pA a,.list 6 j i] l λz v=> ∃o,z=(pB o)/\ K (pB o) v) (K (pB false) l)) (K (pB false) k))):ab prog 216 [pA a,.agg [pI p,pB e,pS b,.list 6 g f,.list 6 j i,pB q,.list 7 s r]] u0 K:= VC [3] [] [(3,⟨[],[]⟩)] [] [] [] [] func216 h
theorem uf.c{a:Option Addr}{b:ByteArray}(h: nP a λf g=> ∃d,aN u0 f g 1=some [pA d]/\ ab prog 306 [pA d,pS b] u0 λj i=> ∃k e,j=(.aC [pI k,pB e])/\ K (pB e) i):ab prog 217 [pA a,pS b] u0 K:= VC [] [] [] [] [] [] [] func217 h
theorem jZ.c{p Z:Int}{T X:Bool}{U:ByteArray}{d7 d8 Y d9 a0:Fl}{V W w j q:Lq}{x:Option Addr}(h: ae (p == 3) (aj (α:=(Fl×Lq)×Int) (λf6 i b1=> ae (decide (i.2<((List.length j:Nat):Int))) (0<=i.2/\∃(a7:List PV),(j)[Int.toNat i.2]?=some a7/\ ∃j0 N,aA a7 1 1=some [.list 4 j0 N]/\ bF false 3 56 i.1.1 i.1.2 [[.list 1 .sh [],.list 4 .sh N,pI i.2]] b1 λf4 f8=> f6 ((f4,(i.1.2++[[.list 1 .sh [],.list 4 .sh N,pI i.2]])),(IntKind.wrap .i64 (i.2+1))) f8) (ab prog 158 [.list 7 Y w,pI (IntKind.wrap .i64 (Z+1)),.list 3 i.1.1 i.1.2,.list 12 a0 q,pA x] b1 λi4 g6=> ∃c0 b9,i4=(.list 3 c0 b9)/\ aj (α:=(Fl×Lq)×Int) (λa4 g b4=> ae (decide (g.2<((List.length j:Nat):Int))) (ab prog 307 [.list 3 c0 b9,pI g.2] b4 λi5 b6=> ∃c1,i5=(pB c1)/\ ae (!c1) (0<=g.2/\∃(a8:List PV),(j)[Int.toNat g.2]?=some a8/\ ∃j1 O j2 P Q,aA a8 0 3=some [.list 1 j1 O,.list 4 j2 P,pI Q]/\ bF false 3 56 g.1.1 g.1.2 [[.list 1 .sh O,.list 4 .sh P,pI Q]] b6 λf5 i2=> a4 ((f5,(g.1.2++[[.list 1 .sh O,.list 4 .sh P,pI Q]])),(IntKind.wrap .i64 (g.2+1))) i2) (a4 ((g.1.1,g.1.2),(IntKind.wrap .i64 (g.2+1))) b6)) (K (.list 3 g.1.1 g.1.2) b4)) ((.nil,[]),0) g6)) ((.nil,[]),0) u0) (aj (α:=(Fl×Lq)×Int) (λy f b7=> ae (decide (f.2<((List.length j:Nat):Int))) (cw (α:=(Fl×Lq)×Bool) (λR=> aj (α:=(Fl×Lq)×Bool×Int) (λz a u=> cw (α:=Unit) (λS=> ae (decide (a.2.2<((List.length q:Nat):Int))) (ae (p == 1) (S () u) (ae a.2.1 (S () u) (R ((a.1.1,a.1.2),a.2.1) u))) (R ((a.1.1,a.1.2),a.2.1) u)) (λk3 i3=> 0<=a.2.2/\∃(a9:List PV),(q)[Int.toNat a.2.2]?=some a9/\ ∃c2 c3 c4 c5 c6 c7 c8 c9 d0 d1 d2 d3,aA a9 0 12=some [pI c2,pS c3,pI c4,pI c5,pS c6,pI c7,pI c8,pS c9,pI d0,pB d1,pB d2,pI d3]/\ 0<=f.2/\∃(b0:List PV),(j)[Int.toNat f.2]?=some b0/\ ∃d5 d4,aA b0 1 1=some [.list 4 d5 d4]/\ ab prog 308 [.agg [pI p,pB T,pS U,.list 6 .sh V,.list 6 .sh W,pB X,.list 7 .sh w],.agg [pI c2,pS c3,pI c4,pI c5,pS c6,pI c7,pI c8,pS c9,pI d0,pB d1,pB d2,pI d3],.list 4 d5 d4] i3 λi6 n=> ∃j3 e d6,i6=(.aC [.list 4 j3 e,pB d6])/\ ae (!d6) (z ((a.1.1,a.1.2),a.2.1,(IntKind.wrap .i64 (a.2.2+1))) n) (ae (p == 1) (cw (α:=(Fl×Lq)) (λk=> 0<=f.2/\∃(a5:List PV),(j)[Int.toNat f.2]?=some a5/\ ∃i7 b,aA a5 0 1=some [.list 1 i7 b]/\ 0<=a.2.2/\∃(t:List PV),(q)[Int.toNat a.2.2]?=some t/\ 0<=f.2/\∃(l:List PV),(j)[Int.toNat f.2]?=some l/\ (∃d,aA t 11 1=some [pI d]/\ (∃s,aA l 2 1=some [pI s]/\ (bF false 1 8 .nil [] b n λe1 f9=> ((bF false 1 8 e1 ([]++b) [[pI d]] f9 λj4 g0=> ((bF false 3 56 a.1.1 a.1.2 [[.list 1 .sh (([]++b)++[[pI d]]),.list 4 .sh e,pI s]] g0 λe4 g1=> k (e4,(a.1.2++[[.list 1 .sh (([]++b)++[[pI d]]),.list 4 .sh e,pI s]])) g1)/\ True)/\ True)/\ True)/\ True)/\ ((bF false 1 8 .nil [] b n λe2 g2=> (bF false 1 8 e2 ([]++b) [[pI d]] g2 λj5 g3=> ((bF false 3 56 a.1.1 a.1.2 [[.list 1 .sh (([]++b)++[[pI d]]),.list 4 .sh e,pI s]] g3 λe5 g4=> k (e5,(a.1.2++[[.list 1 .sh (([]++b)++[[pI d]]),.list 4 .sh e,pI s]])) g4)/\ True)/\ True)/\ True)/\ True)/\ True)/\ (bF false 1 8 .nil [] b n λa1 b2=> (∃C,aA l 2 1=some [pI C]/\ ((bF false 1 8 a1 ([]++b) [[pI d]] b2 λj6 g5=> ((bF false 3 56 a.1.1 a.1.2 [[.list 1 .sh (([]++b)++[[pI d]]),.list 4 .sh e,pI C]] g5 λe6 g7=> k (e6,(a.1.2++[[.list 1 .sh (([]++b)++[[pI d]]),.list 4 .sh e,pI C]])) g7)/\ True)/\ True)/\ True)/\ True)/\ ((bF false 1 8 a1 ([]++b) [[pI d]] b2 λj7 g8=> ∃D,aA l 2 1=some [pI D]/\ ((bF false 3 56 a.1.1 a.1.2 [[.list 1 .sh (([]++b)++[[pI d]]),.list 4 .sh e,pI D]] g8 λe7 g9=> k (e7,(a.1.2++[[.list 1 .sh (([]++b)++[[pI d]]),.list 4 .sh e,pI D]])) g9)/\ True)/\ True)/\ True)/\ True)/\ ((bF false 1 8 .nil [] b n λa2 b3=> (∃E,aA l 2 1=some [pI E]/\ (bF false 1 8 a2 ([]++b) [[pI d]] b3 λj8 h0=> ((bF false 3 56 a.1.1 a.1.2 [[.list 1 .sh (([]++b)++[[pI d]]),.list 4 .sh e,pI E]] h0 λe8 h1=> k (e8,(a.1.2++[[.list 1 .sh (([]++b)++[[pI d]]),.list 4 .sh e,pI E]])) h1)/\ True)/\ True)/\ True)/\ (bF false 1 8 a2 ([]++b) [[pI d]] b3 λj9 h2=> ∃F,aA l 2 1=some [pI F]/\ ((bF false 3 56 a.1.1 a.1.2 [[.list 1 .sh (([]++b)++[[pI d]]),.list 4 .sh e,pI F]] h2 λe9 h3=> k (e9,(a.1.2++[[.list 1 .sh (([]++b)++[[pI d]]),.list 4 .sh e,pI F]])) h3)/\ True)/\ True)/\ True)/\ True)/\ True)/\ (∃G,aA l 2 1=some [pI G]/\ (bF false 1 8 .nil [] b n λe3 h4=> ∃v,aA t 11 1=some [pI v]/\ ((bF false 1 8 e3 ([]++b) [[pI v]] h4 λk0 h5=> ((bF false 3 56 a.1.1 a.1.2 [[.list 1 .sh (([]++b)++[[pI v]]),.list 4 .sh e,pI G]] h5 λf0 h6=> k (f0,(a.1.2++[[.list 1 .sh (([]++b)++[[pI v]]),.list 4 .sh e,pI G]])) h6)/\ True)/\ True)/\ True)/\ True)/\ True)/\ (bF false 1 8 .nil [] b n λa3 b5=> ∃o,aA t 11 1=some [pI o]/\ (∃H,aA l 2 1=some [pI H]/\ ((bF false 1 8 a3 ([]++b) [[pI o]] b5 λk1 h7=> ((bF false 3 56 a.1.1 a.1.2 [[.list 1 .sh (([]++b)++[[pI o]]),.list 4 .sh e,pI H]] h7 λf1 h8=> k (f1,(a.1.2++[[.list 1 .sh (([]++b)++[[pI o]]),.list 4 .sh e,pI H]])) h8)/\ True)/\ True)/\ True)/\ True)/\ ((bF false 1 8 a3 ([]++b) [[pI o]] b5 λk2 h9=> ∃I,aA l 2 1=some [pI I]/\ ((bF false 3 56 a.1.1 a.1.2 [[.list 1 .sh (([]++b)++[[pI o]]),.list 4 .sh e,pI I]] h9 λf2 i0=> k (f2,(a.1.2++[[.list 1 .sh (([]++b)++[[pI o]]),.list 4 .sh e,pI I]])) i0)/\ True)/\ True)/\ True)/\ True)/\ True) (λr A=> nP x λe0 f7=> ∃b8,aN A e0 (f7+1) 1=some [pI b8]/\ ae (decide (((List.length r.2:Nat):Int)>b8)) (K (.list 3 r.1 r.2) A) (z ((r.1,r.2),false,(IntKind.wrap .i64 (a.2.2+1))) A))) (z ((a.1.1,a.1.2),false,(IntKind.wrap .i64 (a.2.2+1))) n)))) ((f.1.1,f.1.2),true,0) b7) (λm B=> ae (p == 2) (ae m.2 (0<=f.2/\∃(a6:List PV),(j)[Int.toNat f.2]?=some a6/\ ∃i8 J i9 L M,aA a6 0 3=some [.list 1 i8 J,.list 4 i9 L,pI M]/\ bF false 3 56 m.1.1 m.1.2 [[.list 1 .sh J,.list 4 .sh L,pI M]] B λf3 i1=> y ((f3,(m.1.2++[[.list 1 .sh J,.list 4 .sh L,pI M]])),(IntKind.wrap .i64 (f.2+1))) i1) (y ((m.1.1,m.1.2),(IntKind.wrap .i64 (f.2+1))) B)) (y ((m.1.1,m.1.2),(IntKind.wrap .i64 (f.2+1))) B))) (K (.list 3 f.1.1 f.1.2) b7)) ((.nil,[]),0) u0)):ab prog 218 [.agg [pI p,pB T,pS U,.list 6 d7 V,.list 6 d8 W,pB X,.list 7 Y w],pI Z,.list 3 d9 j,.list 12 a0 q,pA x] u0 K:= VC [5,1000026] [(5,⟨[(12,.one (.list 3)),(13,.one (.raw (.int .i64)))],[]⟩),(10,⟨[(11,.one (.list 3)),(14,.one (.raw (.int .i64)))],[]⟩),(16,⟨[(11,.one (.list 3)),(15,.one (.raw (.int .i64)))],[]⟩),(20,⟨[(11,.one (.list 3)),(16,.one (.raw .bool)),(17,.one (.raw (.int .i64)))],[]⟩)] [(22,⟨[],[]⟩),(27,⟨[(11,.one (.list 3))],[]⟩),(29,⟨[(11,.one (.list 3)),(16,.one (.raw .bool))],[]⟩)] [] [] [] [] func218 h
theorem lj.c{a:Option Addr}{b f:Int}(h: aj (α:=Unit) (λy T d=> nP a λp z=> ∃R o S,aN d p z 1=some [pV R o S]/\ ae (decide ((((o:Nat):Int):Int)<=b)) (nP a λq A=> ∃g j i,aN d q A 1=some [pV g j i]/\ iw 1 8 3 g j i (.list 1 .nr [[pI 0]]) d λI L J M=> nP a λr B=> stM r B [pV I L J] M λN=> y () N) (nP a λs C=> ∃k l Q,aN d s C 1=some [pV k l Q]/\ bR k λt D=> 0<=b/\b<((l:Nat):Int)/\ stM t (D+Int.toNat b*1) [pI f] d λe=> nP a λu E=> ∃m,aN e u (E+2) 1=some [pB m]/\ ae m (nP a λv F=> stM v (F+2) [pB true] e λO=> K (.aC []) O) (nP a λw G=> ∃n,aN e w (G+1) 1=some [pI n]/\ nP a λx H=> stM x (H+2) [pB (decide (f>n))] e λP=> K (.aC []) P))) () u0):ab prog 219 [pA a,pI b,pI f] u0 K:= VC [] [(0,⟨[],[]⟩)] [] [] [] [] [8,9,16,17,19,21,24,25] func219 h
theorem j_.c{j:Fl}{b:Lq}(h: aj (α:=Int×Int) (λk a e=> ae (decide (a.2<((List.length b:Nat):Int))) (0<=a.2/\∃(d:List PV),(b)[Int.toNat a.2]?=some d/\ ∃g f,aA d 6 1=some [.list 7 g f]/\ ab prog 220 [.list 7 g f] e λm l=> ∃i,m=(pI i)/\ k ((IntKind.wrap .i64 (a.1+(IntKind.wrap .i64 (1+i)))),(IntKind.wrap .i64 (a.2+1))) l) (K (pI a.1) e)) (0,0) u0):ab prog 220 [.list 7 j b] u0 K:= VC [] [(3,⟨[(3,.one (.raw (.int .i64))),(4,.one (.raw (.int .i64)))],[]⟩)] [] [] [] [] [] func220 h
theorem Jm.c{b:Fl}{a:Lq}(h: bF false 4 48 .nil [] a u0 λd e=> K (.list 4 d ([]++a)) e):ab prog 221 [.list 4 b a] u0 K:= VC [] [] [] [] [] [] [] func221 h
theorem Ay.c{r:Fn}{s t b u v:List PV}(h: ca u0 406 [.fn r s t] λS U=> ∃a2 a3 a4,aA b 0 1=some [.fn a2 a3 a4]/\ ∃y z A,aA b 0 1=some [.fn y z A]/\ bJ prog (.fn y z A) (λY a V=> ∃e f g i j k l m n o p q,Y=[.agg [pI e,pS f,pI g,pI i,pS j,pI k,pI l,pS m,pI n,pB o,pB p,pI q]]/\ ∃B C D Z E a0 F G a1 H,aA u 0 7=some [pI B,pB C,pS D,.list 6 Z E,.list 6 a0 F,pB G,.list 7 a1 H]/\ ∃J I,aA v 0 1=some [.list 4 J I]/\ ab prog 223 [.agg [pI B,pB C,pS D,.list 6 .sh E,.list 6 .sh F,pB G,.list 7 .sh H],.agg [pI e,pS f,pI g,pI i,pS j,pI k,pI l,pS m,pI n,pB o,pB p,pI q],.list 4 J I] V λW d=> ∃M L N,W=(.aC [.list 4 M L,pB N])/\ ae N (∃O P Q,aN d S 0 1=some [.fn O P Q]/\ bc prog (.fn O P Q) [.agg [pI e,pS f,pI g,pI i,pS j,pI k,pI l,pS m,pI n,pB o,pB p,pI q],.list 4 M L] d λX x=> ∃R,X=(pB R)/\ ae (!R) (a (some .ret) x) (a none x)) (a none d)) (λT w=> PK T (K (.aC []) w) (K (.aC []) w) []) U):ab prog 222 [.fn r s t,.bl b 0,.bl u 0,.bl v 0] u0 K:= VC [5] [] [] [(11,[60])] [] [] [] func222 h
theorem Gq.c{e n p q s t v P:Int}{f a b g:Bool}{i o r u:ByteArray}{k m O x:Fl}{j l N w:Lq}(h: cw (α:=Unit) (λd=> ae (e != 1) (ae (e != 2) (K (.aC [.list 4 .nil [],pB false]) u0) (ae f (ae (!g) (K (.aC [.list 4 .nil [],pB false]) u0) (ae (!(a == b)) (K (.aC [.list 4 .nil [],pB false]) u0) (d () u0))) (ae (!(a == b)) (K (.aC [.list 4 .nil [],pB false]) u0) (d () u0)))) (ae f (ae (!g) (K (.aC [.list 4 .nil [],pB false]) u0) (ae (!(a == b)) (K (.aC [.list 4 .nil [],pB false]) u0) (d () u0))) (ae (!(a == b)) (K (.aC [.list 4 .nil [],pB false]) u0) (d () u0)))) (λW Q=> ab prog 309 [.agg [pI 1,pS i,pI 0,pS ⟨#[]⟩,pI 0,.list 3 .sh []],.agg [pI n,pS o,pI p],.list 4 x w] Q λS y=> ∃C B D,S=(.aC [.list 4 C B,pB D])/\ ae (!D) (K (.aC [.list 4 .nil [],pB false]) y) (ab prog 310 [.list 6 k j,.agg [pI q,pS r,pI s],.list 4 C B] y λT z=> ∃F E G,T=(.aC [.list 4 F E,pB G])/\ ae (!G) (K (.aC [.list 4 .nil [],pB false]) z) (ab prog 310 [.list 6 m l,.agg [pI t,pS u,pI v],.list 4 F E] z λU A=> ∃I H J,U=(.aC [.list 4 I H,pB J])/\ ae (!J) (K (.aC [.list 4 .nil [],pB false]) A) (ab prog 221 [.list 4 I H] A λV R=> ∃M L,V=(.list 4 M L)/\ K (.aC [.list 4 M L,pB true]) R))))):ab prog 223 [.agg [pI e,pB f,pS i,.list 6 k j,.list 6 m l,pB a,.list 7 O N],.agg [pI n,pS o,pI p,pI q,pS r,pI s,pI t,pS u,pI v,pB b,pB g,pI P],.list 4 x w] u0 K:= VC [3,4] [] [(3,⟨[],[]⟩)] [] [] [] [] func223 h
theorem Gu.c{d a:Int}{b:ByteArray}(h: ae (d == 1) (ae ((((ByteArray.size b:Nat):Int):Int) == 1) ((0:Int)<=0/\∃c14:UInt8,b[Int.toNat 0]?=some c14/\ ab prog 240 [.raw (.int .u8 ((UInt8.toNat c14:Nat):Int))] u0 λj e=> ∃f,j=(pB f)/\ ae f (ae (decide (a>=1)) (K (pB (decide (a<=1048576))) e) (K (pB false) e)) (K (pB false) e)) (K (pB false) u0)) (ae (d == 2) (ae (aG b ⟨#[]⟩) (ae (decide (a>=(-2147483647))) (K (pB (decide (a<=2147483647))) u0) (K (pB false) u0)) (K (pB false) u0)) (ae (d == 3) (ae (a == 0) (ab prog 208 [pS b] u0 λk i=> ∃g,k=(pB g)/\ K (pB g) i) (K (pB false) u0)) (K (pB false) u0)))):ab prog 237 [.agg [pI d,pS b,pI a]] u0 K:= VC [1] [] [] [] [] [] [] func237 h
theorem Gs.c{a:Int}(h: ae (decide (a>=65)) (K (pB (decide (a<=90))) u0) (K (pB false) u0)):ab prog 240 [.raw (.int .u8 a)] u0 K:= VC [] [] [] [] [] [] [] func240 h
theorem Gr.c{a:Int}(h: ae (decide (a>=97)) (K (pB (decide (a<=122))) u0) (K (pB false) u0)):ab prog 294 [.raw (.int .u8 a)] u0 K:= VC [] [] [] [] [] [] [] func294 h
theorem Gt.c{a:Int}(h: ae (decide (a>=48)) (K (pB (decide (a<=57))) u0) (K (pB false) u0)):ab prog 295 [.raw (.int .u8 a)] u0 K:= VC [] [] [] [] [] [] [] func295 h
theorem AA.c{o:Fl}{b:Lq}(h: aj (α:=Int) (λp a e=> ae (decide (a<((List.length b:Nat):Int))) (0<=a/\∃(d:List PV),(b)[Int.toNat a]?=some d/\ ∃g i j k l r m,aA d 0 6=some [pI g,pS i,pI j,pS k,pI l,.list 3 r m]/\ ab prog 371 [.agg [pI g,pS i,pI j,pS k,pI l,.list 3 .sh m]] e λq f=> ∃n,q=(pB n)/\ ae (!n) (K (pB false) f) (p (IntKind.wrap .i64 (a+1)) f)) (K (pB true) e)) (0) u0):ab prog 296 [.list 6 o b] u0 K:= VC [4] [(2,⟨[(7,.one (.raw (.int .i64)))],[]⟩)] [] [] [] [] [] func296 h
theorem Dy.c{a d:ByteArray}{b e:Int}(h: ae (!aG a ⟨#[]⟩) (ab prog 208 [pS a] u0 λm f=> ∃j,m=(pB j)/\ ae j (ab prog 372 [.agg [pI b,pS d,pI e]] f λn k=> ∃g,n=(pB g)/\ K (pB g) k) (K (pB false) f)) (ab prog 373 [.agg [pI b,pS d,pI e]] u0 λo l=> ∃i,o=(pB i)/\ K (pB i) l)):ab prog 297 [.agg [pS a,pI b,pS d,pI e]] u0 K:= VC [1] [] [] [] [] [] [] func297 h
theorem Dv.c{a i k d f:Int}{g j b e:ByteArray}(h: ae (decide (a<0)) (K (pB false) u0) (ae (decide (a>3)) (K (pB false) u0) (ab prog 297 [.agg [pS g,pI i,pS j,pI k]] u0 λv l=> ∃o,v=(pB o)/\ ae (!o) (K (pB false) l) (ae (a == 0) (ab prog 300 [.agg [pS b,pI d,pS e,pI f]] l λw t=> ∃p,w=(pB p)/\ K (pB p) t) (ab prog 297 [.agg [pS b,pI d,pS e,pI f]] l λx m=> ∃q,x=(pB q)/\ ae q (ab prog 374 [.agg [pS g,pI i,pS j,pI k]] m λy n=> ∃r,y=(pB r)/\ ae (!r) (ab prog 374 [.agg [pS b,pI d,pS e,pI f]] n λz u=> ∃s,z=(pB s)/\ K (pB (!s)) u) (K (pB false) n)) (K (pB false) m)))))):ab prog 298 [.agg [pI a,pS g,pI i,pS j,pI k,pS b,pI d,pS e,pI f]] u0 K:= VC [1] [] [] [] [] [] [] func298 h
theorem AB.c{a:Int}(h: ae (a == 8) (K (pB true) u0) (ae (a == 9) (K (pB true) u0) (K (pB (a == 10)) u0))):ab prog 299 [pI a] u0 K:= VC [] [] [] [] [] [] [] func299 h
theorem AD.c{a d:ByteArray}{b e:Int}(h: ae (aG a ⟨#[]⟩) (ab prog 372 [.agg [pI b,pS d,pI e]] u0 λi g=> ∃f,i=(pB f)/\ K (pB f) g) (K (pB false) u0)):ab prog 300 [.agg [pS a,pI b,pS d,pI e]] u0 K:= VC [1] [] [] [] [] [] [] func300 h
theorem jz.c{d:Option Addr}{i:ByteArray}(h: nP d λo q=> ∃s l,aN u0 o q 1=some [.list 1 s l]/\ aj (α:=Int×Int) (λj a e=> ae (decide (a.1<a.2)) ((2:Int)≠0/\ nP d λp r=> ∃t m,aN e p r 1=some [.list 1 t m]/\ 0<=(IntKind.wrap .i64 (a.1+(IntKind.wrap .i64 (Int.tdiv (IntKind.wrap .i64 (a.2-a.1)) 2))))/\∃(k:List PV),(m)[Int.toNat (IntKind.wrap .i64 (a.1+(IntKind.wrap .i64 (Int.tdiv (IntKind.wrap .i64 (a.2-a.1)) 2))))]?=some k/\ ∃n,aA k 0 1=some [pS n]/\ (∀b,pv prog (method (prog.types.size+Made.depth) 273 b "Compare")=some (549,b))/\ ab prog 549 [pS n,pS i] e λb f=> ∃g,b=(pI g)/\ ae (g == 0) (K (.aC [pI (IntKind.wrap .i64 (a.1+(IntKind.wrap .i64 (Int.tdiv (IntKind.wrap .i64 (a.2-a.1)) 2)))),pB true]) f) (ae (decide (g<0)) (j ((IntKind.wrap .i64 ((IntKind.wrap .i64 (a.1+(IntKind.wrap .i64 (Int.tdiv (IntKind.wrap .i64 (a.2-a.1)) 2))))+1)),a.2) f) (j (a.1,(IntKind.wrap .i64 (a.1+(IntKind.wrap .i64 (Int.tdiv (IntKind.wrap .i64 (a.2-a.1)) 2))))) f))) (K (.aC [pI a.1,pB false]) e)) (0,((List.length l:Nat):Int)) u0):ab prog 301 [pA d,pS i] u0 K:= VC [] [(2,⟨[(6,.one (.raw (.int .i64))),(7,.one (.raw (.int .i64)))],[]⟩)] [] [] [] [] [] func301 h
theorem kl.c{a:Option Addr}(h: nP a λg m=> ∃f,aN u0 g (m+1) 1=some [pB f]/\ ae f (nP a λi n=> ∃x b,aN u0 i n 1=some [.list 1 x b]/\ nP a λj o=> ∃e d,aN u0 j o 1=some [.list 1 e d]/\ (0:Int)<=0/\0<=(IntKind.wrap .i64 (((List.length b:Nat):Int)+1))/\(IntKind.wrap .i64 (((List.length b:Nat):Int)+1))<(4611686018427387904:Int)/\Int.toNat (IntKind.wrap .i64 (((List.length b:Nat):Int)+1))*16<=140737488355328/\ ∀(IY:Nat),u0 IY=none-> iw 1 16 273 (some ⟨IY,0,none⟩) (Int.toNat 0) (Int.toNat (IntKind.wrap .i64 (((List.length b:Nat):Int)+1))) (.list 1 e d) (Mem.set u0 IY (some (.cells 273 (List.flatten (List.replicate (Int.toNat (IntKind.wrap .i64 (((List.length b:Nat):Int)+1))) [pS ⟨#[]⟩]))))) λr t s u=> nP a λk p=> stM k p [pV r t s] u λv=> nP a λl q=> stM l (q+1) [pB false] v λw=> K (.aC []) w) (K (.aC []) u0)):ab prog 302 [pA a] u0 K:= VC [] [] [] [] [] [] [] func302 h
theorem ja.c{a:Option Addr}(h: ae (Option.isNone a) (ca u0 398 [.list 1 .nil [],pB false] λi m=> K (pP i 0) m) (nP a λf k=> stM f (k+1) [pB true] u0 λb=> nP a λj l=> ∃e d,aN b j l 1=some [.list 1 e d]/\ ca b 398 [.list 1 e d,pB true] λg n=> K (pP g 0) n)):ab prog 303 [pA a] u0 K:= VC [] [] [] [] [] [] [] func303 h
theorem ue.c{a:Option Addr}{b:ByteArray}(h: nP a λk n=> ∃i,aN u0 k n 1=some [pA i]/\ ab prog 214 [pA i,pS b] u0 λv d=> ∃j,v=(pB j)/\ ae j (nP a λl o=> ∃e g f,aN d l (o+1) 1=some [pV e g f]/\ iw 1 16 9 e g f (.list 1 .nr [[pS b]]) d λq s r t=> nP a λm p=> stM m (p+1) [pV q s r] t λu=> K (.aC []) u) (K (.aC []) d)):ab prog 304 [pA a,pS b] u0 K:= VC [] [] [] [] [] [] [14,17] func304 h
theorem qD.c{f:Option Addr}{m:Fl}{g:Lq}(h: aj (α:=Int) (λd a b=> ae (decide (a<((List.length g:Nat):Int))) (0<=a/\∃(j:List PV),(g)[Int.toNat a]?=some j/\ ∃i e q r s u t,aA j 0 6=some [pI i,pS e,pI q,pS r,pI s,.list 3 u t]/\ ae (i == 8) (d (IntKind.wrap .i64 (a+1)) b) (ae (aG e ⟨#[]⟩) (d (IntKind.wrap .i64 (a+1)) b) (ae (i == 1) (ab prog 304 [pA f,pS e] b λo n=>
 o=(.aC [])/\ d (IntKind.wrap .i64 (a+1)) n) (ab prog 217 [pA f,pS e] b λp k=> ∃l,p=(pB l)/\ ae (!l) (K (pB false) k) (d (IntKind.wrap .i64 (a+1)) k))))) (K (pB true) b)) (0) u0):ab prog 305 [pA f,.list 6 m g] u0 K:= VC [6] [(2,⟨[(9,.one (.raw (.int .i64)))],[]⟩)] [] [] [] [] [] func305 h
theorem i_.c{a:Option Addr}{b:ByteArray}(h: ae (Option.isNone a) (K (.aC [pI 0,pB false]) u0) (ab prog 301 [pA a,pS b] u0 λg f=> ∃d e,g=(.aC [pI d,pB e])/\ K (.aC [pI d,pB e]) f)):ab prog 306 [pA a,pS b] u0 K:= VC [] [] [] [] [] [] [] func306 h
theorem sw.c{i:Fl}{b:Lq}{e:Int}(h: aj (α:=Int) (λj a d=> ae (decide (a<((List.length b:Nat):Int))) (0<=a/\∃(f:List PV),(b)[Int.toNat a]?=some f/\ ∃g,aA f 2 1=some [pI g]/\ ae (g == e) (K (pB true) d) (j (IntKind.wrap .i64 (a+1)) d)) (K (pB false) d)) (0) u0):ab prog 307 [.list 3 i b,pI e] u0 K:= VC [] [(2,⟨[(5,.one (.raw (.int .i64)))],[]⟩)] [] [] [] [] [] func307 h
theorem sy.c{e n p q s t v M:Int}{f a b g:Bool}{i o r u:ByteArray}{k m L x:Fl}{j l J w:Lq}(h: cw (α:=Unit) (λd=> ae (e != 1) (ae (e != 2) (K (.aC [.list 4 .nil [],pB false]) u0) (ae f (ae (!g) (K (.aC [.list 4 .nil [],pB false]) u0) (ae (!(a == b)) (K (.aC [.list 4 .nil [],pB false]) u0) (d () u0))) (ae (!(a == b)) (K (.aC [.list 4 .nil [],pB false]) u0) (d () u0)))) (ae f (ae (!g) (K (.aC [.list 4 .nil [],pB false]) u0) (ae (!(a == b)) (K (.aC [.list 4 .nil [],pB false]) u0) (d () u0))) (ae (!(a == b)) (K (.aC [.list 4 .nil [],pB false]) u0) (d () u0)))) (λS N=> ab prog 375 [.agg [pI 1,pS i,pI 0,pS ⟨#[]⟩,pI 0,.list 3 .sh []],.agg [pI n,pS o,pI p],.list 4 x w] N λP y=> ∃B A C,P=(.aC [.list 4 B A,pB C])/\ ae (!C) (K (.aC [.list 4 .nil [],pB false]) y) (ab prog 376 [.list 6 k j,.agg [pI q,pS r,pI s],.list 4 B A] y λQ z=> ∃E D F,Q=(.aC [.list 4 E D,pB F])/\ ae (!F) (K (.aC [.list 4 .nil [],pB false]) z) (ab prog 376 [.list 6 m l,.agg [pI t,pS u,pI v],.list 4 E D] z λR O=> ∃H G I,R=(.aC [.list 4 H G,pB I])/\ K (.aC [.list 4 H G,pB I]) O)))):ab prog 308 [.agg [pI e,pB f,pS i,.list 6 k j,.list 6 m l,pB a,.list 7 L J],.agg [pI n,pS o,pI p,pI q,pS r,pI s,pI t,pS u,pI v,pB b,pB g,pI M],.list 4 x w] u0 K:= VC [3,4] [] [(3,⟨[],[]⟩)] [] [] [] [] func308 h
theorem Jn.c{b n p d f:Int}{g o e:ByteArray}{A i:Fl}{k a:Lq}(h: ae (b == 8) (aj (α:=Int) (λC j l=> ae (decide (j<((List.length k:Nat):Int))) (0<=j/\∃(q:List PV),(k)[Int.toNat j]?=some q/\ ∃r s t,aA q 0 3=some [pI r,pS s,pI t]/\ ae ((r == d)&&(aG s e&&((t == f)&&true))) (K (.aC [.list 4 i a,pB true]) l) (C (IntKind.wrap .i64 (j+1)) l)) (K (.aC [.list 4 .nil [],pB false]) l)) (0) u0) (ae (decide (b<1)) (K (.aC [.list 4 .nil [],pB false]) u0) (ae (decide (b>7)) (K (.aC [.list 4 .nil [],pB false]) u0) (ae (aG g ⟨#[]⟩) (ab prog 377 [pI b,.agg [pI d,pS e,pI f],.agg [pI n,pS o,pI p]] u0 λG D=> ∃u,G=(pB u)/\ K (.aC [.list 4 i a,pB u]) D) (ab prog 378 [.list 4 i a,pS g] u0 λH m=> ∃v w x y,H=(.aC [.agg [pI v,pS w,pI x],pB y])/\ ae y (ab prog 377 [pI b,.agg [pI d,pS e,pI f],.agg [pI v,pS w,pI x]] m λI E=> ∃z,I=(pB z)/\ K (.aC [.list 4 i a,pB z]) E) (ae (b != 1) (K (.aC [.list 4 .nil [],pB false]) m) ((0:Int)<=(0:Int)/\0<=((List.length a:Nat):Int)/\((List.length a:Nat):Int)<=((List.length a:Nat):Int)/\((List.length a:Nat):Int)=((List.length a:Nat):Int)/\ bF false 4 48 .nr (List.drop (Int.toNat (0:Int)) (List.take (Int.toNat ((List.length a:Nat):Int)) a)) [[pS g,pI d,pS e,pI f]] m λB F=> K (.aC [.list 4 B ((List.drop (Int.toNat (0:Int)) (List.take (Int.toNat ((List.length a:Nat):Int)) a))++[[pS g,pI d,pS e,pI f]]),pB true]) F))))))):ab prog 309 [.agg [pI b,pS g,pI n,pS o,pI p,.list 3 A k],.agg [pI d,pS e,pI f],.list 4 i a] u0 K:= VC [3,4,9,10] [(3,⟨[(18,.one (.raw (.int .i64)))],[]⟩)] [] [] [] [] [] func309 h
theorem Jo.c{v i:Fl}{b g:Lq}{d f:Int}{e:ByteArray}(h: aj (α:=(Fl×Lq)×Int) (λw a k=> ae (decide (a.2<((List.length b:Nat):Int))) (0<=a.2/\∃(j:List PV),(b)[Int.toNat a.2]?=some j/\ ∃m n o p q y r,aA j 0 6=some [pI m,pS n,pI o,pS p,pI q,.list 3 y r]/\ ab prog 309 [.agg [pI m,pS n,pI o,pS p,pI q,.list 3 .sh r],.agg [pI d,pS e,pI f],.list 4 a.1.1 a.1.2] k λx l=> ∃t s u,x=(.aC [.list 4 t s,pB u])/\ ae (!u) (K (.aC [.list 4 .nil [],pB false]) l) (w ((t,s),(IntKind.wrap .i64 (a.2+1))) l)) (K (.aC [.list 4 a.1.1 a.1.2,pB true]) k)) ((i,g),0) u0):ab prog 310 [.list 6 v b,.agg [pI d,pS e,pI f],.list 4 i g] u0 K:= VC [4,9] [(2,⟨[(2,.one (.list 4)),(14,.one (.raw (.int .i64)))],[]⟩)] [] [] [] [] [] func310 h
end Go.Proofs.YtbkejjmjopgpoaaGreat
namespace Go.Proofs.YtbkejjmjopgpoaaGreat
open Go.Proofs.Tryz Go.az
variable {u0:Mem} {K:Kq}
set_option maxRecDepth 100000
theorem Du.c{b e g:Int}{d f:ByteArray}{w:Fl}{a:Lq}(h: ae (b == 8) (ae (!aG d ⟨#[]⟩) (K (pB false) u0) (ab prog 372 [.agg [pI e,pS f,pI g]] u0 λA j=> ∃o,A=(pB o)/\ ae (!o) (K (pB false) j) (ae (decide (((List.length a:Nat):Int)<1)) (K (pB false) j) (ae (decide (((List.length a:Nat):Int)>8)) (K (pB false) j) (aj (α:=Int) (λx i l=> ae (decide (i<((List.length a:Nat):Int))) (0<=i/\∃(k:List PV),(a)[Int.toNat i]?=some k/\ ∃p q r,aA k 0 3=some [pI p,pS q,pI r]/\ ab prog 373 [.agg [pI p,pS q,pI r]] l λB m=> ∃s,B=(pB s)/\ ae (!s) (K (pB false) m) (x (IntKind.wrap .i64 (i+1)) m)) (K (pB true) l)) (0) j))))) (ae (decide (b<1)) (K (pB false) u0) (ae (decide (b>7)) (K (pB false) u0) (ae (decide (((List.length a:Nat):Int)>0)) (K (pB false) u0) (ae (!aG d ⟨#[]⟩) (ab prog 208 [pS d] u0 λC n=> ∃t,C=(pB t)/\ ae t (ab prog 372 [.agg [pI e,pS f,pI g]] n λD y=> ∃u,D=(pB u)/\ K (pB u) y) (K (pB false) n)) (ab prog 373 [.agg [pI e,pS f,pI g]] u0 λE z=> ∃v,E=(pB v)/\ K (pB v) z)))))):ab prog 371 [.agg [pI b,pS d,pI e,pS f,pI g,.list 3 w a]] u0 K:= VC [1,4] [(5,⟨[(32,.one (.raw (.int .i64)))],[]⟩)] [] [] [] [] [] func371 h
theorem Dw.c{a d:Int}{b:ByteArray}(h: K (pB ((a == 0)&&(aG b ⟨#[]⟩&&((d == 0)&&true)))) u0):ab prog 372 [.agg [pI a,pS b,pI d]] u0 K:= VC [1] [] [] [] [] [] [] func372 h
theorem vE.c{a d:Int}{b:ByteArray}(h: ae (a != 1) (ab prog 237 [.agg [pI a,pS b,pI d]] u0 λg f=> ∃e,g=(pB e)/\ K (pB e) f) (K (pB false) u0)):ab prog 373 [.agg [pI a,pS b,pI d]] u0 K:= VC [1] [] [] [] [] [] [] func373 h
theorem Dt.c{a d:ByteArray}{b e:Int}(h: ae (aG a ⟨#[]⟩) (K (pB (b == 3)) u0) (K (pB false) u0)):ab prog 374 [.agg [pS a,pI b,pS d,pI e]] u0 K:= VC [1] [] [] [] [] [] [] func374 h
theorem uo.c{a p r f i:Int}{e q g:ByteArray}{E d:Fl}{k b:Lq}(h: ae (a == 8) (aj (α:=Int) (λF j m=> ae (decide (j<((List.length k:Nat):Int))) (0<=j/\∃(s:List PV),(k)[Int.toNat j]?=some s/\ ∃u v w,aA s 0 3=some [pI u,pS v,pI w]/\ ae ((u == f)&&(aG v g&&((w == i)&&true))) (K (.aC [.list 4 d b,pB true]) m) (F (IntKind.wrap .i64 (j+1)) m)) (K (.aC [.list 4 .nil [],pB false]) m)) (0) u0) (ae (decide (a<1)) (K (.aC [.list 4 .nil [],pB false]) u0) (ae (decide (a>7)) (K (.aC [.list 4 .nil [],pB false]) u0) (cw (α:=(Int×ByteArray×Int)) (λo=> ae (!aG e ⟨#[]⟩) (ab prog 431 [.list 4 d b,pS e] u0 λI n=> ∃x y z A,I=(.aC [.agg [pI x,pS y,pI z],pB A])/\ ae (!A) (ae (a != 1) (K (.aC [.list 4 .nil [],pB false]) n) (ab prog 432 [.list 4 d b,pS e,.agg [pI f,pS g,pI i]] n λJ H=> ∃C B,J=(.list 4 C B)/\ K (.aC [.list 4 C B,pB true]) H)) (o (x,y,z) n)) (o (p,q,r) u0)) (λl G=> ab prog 433 [pI a,.agg [pI f,pS g,pI i],.agg [pI l.1,pS l.2.1,pI l.2.2]] G λL t=> ∃D,L=(pB D)/\ ae (!D) (K (.aC [.list 4 .nil [],pB false]) t) (K (.aC [.list 4 d b,pB true]) t)))))):ab prog 375 [.agg [pI a,pS e,pI p,pS q,pI r,.list 3 E k],.agg [pI f,pS g,pI i],.list 4 d b] u0 K:= VC [3,4,9,10] [(3,⟨[(8,.one (.raw (.int .i64)))],[]⟩)] [(18,⟨[(9,.box [.raw (.int .i64),.raw .str,.raw (.int .i64)])],[]⟩)] [] [] [] [] func375 h
theorem qI.c{v i:Fl}{b g:Lq}{d f:Int}{e:ByteArray}(h: aj (α:=(Fl×Lq)×Int) (λw a k=> ae (decide (a.2<((List.length b:Nat):Int))) (0<=a.2/\∃(j:List PV),(b)[Int.toNat a.2]?=some j/\ ∃m n o p q y r,aA j 0 6=some [pI m,pS n,pI o,pS p,pI q,.list 3 y r]/\ ab prog 375 [.agg [pI m,pS n,pI o,pS p,pI q,.list 3 .sh r],.agg [pI d,pS e,pI f],.list 4 a.1.1 a.1.2] k λx l=> ∃t s u,x=(.aC [.list 4 t s,pB u])/\ ae (!u) (K (.aC [.list 4 .nil [],pB false]) l) (w ((t,s),(IntKind.wrap .i64 (a.2+1))) l)) (K (.aC [.list 4 a.1.1 a.1.2,pB true]) k)) ((i,g),0) u0):ab prog 376 [.list 6 v b,.agg [pI d,pS e,pI f],.list 4 i g] u0 K:= VC [4] [(2,⟨[(2,.one (.list 4)),(8,.one (.raw (.int .i64)))],[]⟩)] [] [] [] [] [] func376 h
theorem Ds.c{b f d g e:Int}{j k:ByteArray}(h: cw (α:=Bool) (λl=> ae (f == 2) (l (g == 2) u0) (l false u0)) (λi a=> ae (b == 1) (K (pB ((f == g)&&(aG j k&&((d == e)&&true)))) a) (ae (b == 2) (K (pB (!((f == g)&&(aG j k&&((d == e)&&true))))) a) (ae (b == 3) (ae i (K (pB (decide (d<e))) a) (K (pB false) a)) (ae (b == 4) (ae i (K (pB (decide (d<=e))) a) (K (pB false) a)) (ae (b == 5) (ae i (K (pB (decide (d>e))) a) (K (pB false) a)) (ae (b == 6) (ae i (K (pB (decide (d>=e))) a) (K (pB false) a)) (ae (b == 7) (K (pB (f == g)) a) (K (pB false) a))))))))):ab prog 377 [pI b,.agg [pI f,pS j,pI d],.agg [pI g,pS k,pI e]] u0 K:= VC [4,5] [] [(2,⟨[(7,.one (.raw .bool))],[]⟩)] [] [] [] [] func377 h
theorem Jp.c{l:Fl}{b:Lq}{e:ByteArray}(h: aj (α:=Int) (λm a d=> ae (decide (a<((List.length b:Nat):Int))) (0<=a/\∃(f:List PV),(b)[Int.toNat a]?=some f/\ ∃g i j k,aA f 0 4=some [pS g,pI i,pS j,pI k]/\ ae (aG g e) (K (.aC [.agg [pI i,pS j,pI k],pB true]) d) (m (IntKind.wrap .i64 (a+1)) d)) (K (.aC [.agg [pI 0,pS ⟨#[]⟩,pI 0],pB false]) d)) (0) u0):ab prog 378 [.list 4 l b,pS e] u0 K:= VC [4,7] [(2,⟨[(10,.one (.raw (.int .i64)))],[(4,3)]⟩)] [] [] [] [] [] func378 h
theorem uq.c{m:Fl}{b:Lq}{e:ByteArray}(h: aj (α:=Int) (λn a d=> ae (decide (a<((List.length b:Nat):Int))) (0<=a/\∃(f:List PV),(b)[Int.toNat a]?=some f/\ ∃i,aA f 0 1=some [pS i]/\ ae (aG i e) (0<=a/\∃(g:List PV),(b)[Int.toNat a]?=some g/\ ∃j k l,aA g 1 3=some [pI j,pS k,pI l]/\ K (.aC [.agg [pI j,pS k,pI l],pB true]) d) (n (IntKind.wrap .i64 (a+1)) d)) (K (.aC [.agg [pI 0,pS ⟨#[]⟩,pI 0],pB false]) d)) (0) u0):ab prog 431 [.list 4 m b,pS e] u0 K:= VC [4] [(2,⟨[(6,.one (.raw (.int .i64)))],[(4,3)]⟩)] [] [] [] [] [] func431 h
theorem sv.c{g:Fl}{a:Lq}{b e:ByteArray}{d f:Int}(h: (bF true 4 48 .nil [] a u0 λk m=> bF false 4 48 k ([]++a) [[pS b,pI d,pS e,pI f]] m λi n=> K (.list 4 i (([]++a)++[[pS b,pI d,pS e,pI f]])) n)/\ (bF true 4 48 .nil [] a u0 λl o=> bF false 4 48 l ([]++a) [[pS b,pI d,pS e,pI f]] o λj p=> K (.list 4 j (([]++a)++[[pS b,pI d,pS e,pI f]])) p)):ab prog 432 [.list 4 g a,pS b,.agg [pI d,pS e,pI f]] u0 K:= VC [5] [] [] [] [] [] [] func432 h
theorem qJ.c{b f d g e:Int}{j k:ByteArray}(h: cw (α:=Bool) (λl=> ae (f == 2) (l (g == 2) u0) (l false u0)) (λi a=> ae (b == 1) (K (pB ((f == g)&&(aG j k&&((d == e)&&true)))) a) (ae (b == 2) (K (pB (!((f == g)&&(aG j k&&((d == e)&&true))))) a) (ae (b == 3) (ae i (K (pB (decide (d<e))) a) (K (pB false) a)) (ae (b == 4) (ae i (K (pB (decide (d<=e))) a) (K (pB false) a)) (ae (b == 5) (ae i (K (pB (decide (d>e))) a) (K (pB false) a)) (ae (b == 6) (ae i (K (pB (decide (d>=e))) a) (K (pB false) a)) (ae (b == 7) (K (pB (f == g)) a) (K (pB false) a))))))))):ab prog 433 [pI b,.agg [pI f,pS j,pI d],.agg [pI g,pS k,pI e]] u0 K:= VC [4,5] [] [(2,⟨[(7,.one (.raw .bool))],[]⟩)] [] [] [] [] func433 h
end Go.Proofs.YtbkejjmjopgpoaaGreat
namespace Go.Proofs.YtbkejjmjopgpoaaGreat
open Go.Proofs.Tryz Go.az
variable {u0:Mem} {K:Kq}
set_option maxRecDepth 100000
theorem mP.c{a b:Int}(h: ae (decide (a<b)) (K (pI (-1)) u0) (ae (decide (a>b)) (K (pI 1) u0) (K (pI 0) u0))):ab prog 505 [pI a,pI b] u0 K:= VC [] [] [] [] [] [] [] func505 h
theorem pF.c{a b:ByteArray}(h: ae (Op.bytesLess (ByteArray.toList a) (ByteArray.toList b)) (K (pI (-1)) u0) (ae (!(Op.bytesLess (ByteArray.toList a) (ByteArray.toList b)||aG a b)) (K (pI 1) u0) (K (pI 0) u0))):ab prog 518 [pS a,pS b] u0 K:= VC [] [] [] [] [] [] [] func518 h
theorem pf.c{a b:ByteArray}(h: ae (Op.bytesLess (ByteArray.toList a) (ByteArray.toList b)) (K (pI (-1)) u0) (ae (!(Op.bytesLess (ByteArray.toList a) (ByteArray.toList b)||aG a b)) (K (pI 1) u0) (K (pI 0) u0))):ab prog 549 [pS a,pS b] u0 K:= VC [] [] [] [] [] [] [] func549 h
end Go.Proofs.YtbkejjmjopgpoaaGreat
namespace Go.az
open Go.RowKit
theorem cw.of{α β:Type}{A:(α->β->Prop)->Prop}{B:α->β->Prop}(h:∀J:α->β->Prop,(∀s u,B s u->J s u)->A J):cw A B:=⟨B,h B λ_ _ h=>h,λ_ _ h=>h⟩
theorem bF.go1{q:Bool}{size bytes:Nat}{fl:Fl}{rows new:Lq}{μ:Mem}{K:Fl->Mem->Prop}(h:wI fl rows.length size μ)(hb:(rows.length+new.length)*bytes<=140737488355328)(nH:rows.length+new.length<4611686018427387904)
  (hK:∀iD μ',wI iD (rows.length+new.length) size μ'->K iD μ') (hq:q=true->∀b c,fl≠ .mS b c:=by first|(intro h;cases h;done)|(intro _ b c h;cases h)):bF q size bytes fl rows new μ K:=bF.go h hb nH (λiD μ' h1 _=>hK iD μ' h1) hq
theorem jA.nil(μ:Mem):jA μ [] []:=jA.refl μ []
theorem ab.post{P:Program}{g:FuncId}{args:List PV}{μ:Mem}{K:Kq}(h:ab P g args μ λv μ'=>∃mQ,GU μ' mQ/\K v mQ):ab P g args μ K:=λZ u vs hg hw ha=>by
 obtain⟨hc,F,hF,h⟩:=h Z u vs hg hw ha
 refine⟨hc,F,hF,h.mono λv lo w' hm hs hp=>?_⟩
 obtain⟨Z',μ',p,e,g',hr,mQ,hG,hK⟩:=hp
 obtain⟨Z'',e',g''⟩:=hG Z' _ g'
 exact⟨Z'',mQ,p,e.trans e' hm.size,g'',hr.mono e'.le,hK⟩
theorem ab.agC{P:Program}{g:FuncId}{args:List PV}{μ:Mem}{K:PV->Prop}(h:ab P g args μ λv μ'=>∃v',mh μ' v v'/\K v'):ab P g args μ λv _=>K v:=λZ u vs hg hw ha=>by
 obtain⟨hc,F,hF,h⟩:=h Z u vs hg hw ha
 refine⟨hc,F,hF,h.mono λv lo w' hm hs hp=>?_⟩
 obtain⟨Z',μ',p,e,g',hr,v',hb,hK⟩:=hp
 have hG:GU μ' M0:=GU.bor (μ1:=μ') (λ_ _ h=>h) λb o h=>by cases h
 have hle:=iF g'
 refine⟨jx Z' (u.ret lo w') μ',M0,v',⟨e.le.trans hle,λb C hC hn=>?_,λb jO=>?_,λb jO=>absurd rfl jO,e.lt⟩,⟨zz g',λb o h=>by cases h⟩,hb.rep g' hr,hK⟩
 ·have h1:=e.zs b C hC hn
  obtain⟨C',h2,_⟩:=hle b C h1
  have:μ' b=none:=by
   cases hx:μ' b with
   |none=>rfl
   |some o=>
    rcases e.mn b (by rw[hx];simp)with h3|h3
    ·exact absurd hn h3
    ·have:=e.lt b (by rw[hC];simp);omega
  rw[ix this];exact h1
 ·cases hx:μ' b with
  |none=>rw[ix hx]at jO;exact e.zn b jO
  |some o=>exact .inr (e.mn b (by rw[hx];simp))
theorem ab.freeze{P:Program}{g:FuncId}{args:List PV}{μ:Mem}{K K':Kq}(h:ab P g args μ K)(hk:∀v μ',K v μ'->∃(v':PV) (mQ:Mem) (bs:List Nat),(∀Z u r,Good Z u μ'->bw Z v r->bw (jx Z u λb=>if b∈bs then μ' b else none) v' r)/\(∀b o,mQ b=some o->μ' b=some o/\b∉bs)/\K' v' mQ):ab P g args μ K':=λZ u vs hg hw ha=>by
 obtain⟨hc,h⟩:=h Z u vs hg hw ha
 refine⟨hc,h.EP λv lo w' _ _ hp=>?_⟩
 obtain⟨Z',μ',p,e,g',hr,hK⟩:=hp
 obtain⟨v',mQ,bs,h1,h2,h3⟩:=hk p μ' hK
 have gs:Good Z' (u.ret lo w') (λb=>if b∈bs then μ' b else none):=g'.sub λb o hb=>by
  by_cases hm:b∈bs
  ·rw[if_pos hm]at hb;exact hb
  ·rw[if_neg hm]at hb;cases hb
 have hzb:∀b,b∉bs->jx Z' (u.ret lo w') (λb=>if b∈bs then μ' b else none) b=Z' b:=λb hb=>by
  unfold jx;simp[hb,cellsOf]
 refine⟨jx Z' (u.ret lo w') (λb=>if b∈bs then μ' b else none),mQ,v',⟨e.le.trans (iF gs),λb C hC hn=>?_,λb hb=>?_,λb hb=>?_,e.lt⟩,g'.go (iF gs) (λb C hC=>?_) (λb o ho=>?_),h1 Z' _ _ g' hr,h3⟩
 ·have h4:=e.zs b C hC hn
  obtain⟨C',h5,_⟩:=iF gs b C h4
  unfold jx at h5 |-
  split
  ·rename_i cs hm
   have hz:=(r_ gs hm).1
   rw[h4]at hz;cases hz
  ·exact h4
 ·by_cases hm:b∈bs
  ·cases hx:μ' b with
   |none=>unfold jx at hb;simp[hm,hx,cellsOf]at hb;exact e.zn b hb
   |some o=>exact .inr (e.mn b (by rw[hx];simp))
  ·rw[hzb b hm]at hb;exact e.zn b hb
 ·cases hx:mQ b with
  |none=>exact absurd hx hb
  |some o=>exact e.mn b (by rw[(h2 b o hx).1];simp)
 ·by_cases hm:b∈bs
  ·unfold jx at hC
   split at hC
   ·split at hC
    ·rename_i A T f hA;cases hC;exact .inr ⟨A,T,f,hA,List.prefix_refl _⟩
    ·cases hC
   ·exact .inl ⟨hC,rfl⟩
  ·rw[hzb b hm]at hC;exact .inl ⟨hC,rfl⟩
 ·obtain⟨h4,h5⟩:=h2 b o ho
  exact .inl ⟨h4,rfl,id,hzb b h5⟩
theorem Mv.wide{μ μ':Mem}{F F' G:List Nat}(h:Mv μ μ' F F')(hG:∀x∈F,x∈G):Mv μ μ' G (F'++G):=⟨λx hx hn=>h.bV x hx λhf=>hn (hG x hf),λx hx=>by
 rcases List.mem_append.1 hx with h1|h1
 ·exact(h.grow x h1).imp (hG x) id
 ·exact .inl h1⟩
theorem vD.view{e:TypeId}{sz:Nat}{μ:Mem}{p:PV}{rows:Lq}{F:List Nat}(h:vD e sz μ p rows F)(hr:∀r∈rows,r.length=sz)(hc:aE rows.flatten=true):mh μ p (.list sz .sh rows):=by
 rcases h with⟨rfl,rfl,_⟩|⟨b,c,rest,rfl,_,h2,h3,h4⟩
 ·exact .YQ none 0 sz (.inl rfl)
 ·have iB:rows.flatten.length=rows.length*sz:=dw hr
  refine .list ⟨rfl,h4,.inr λx hx=>by cases hx;rfl,hr,hc,λ_=>⟨b,0,rfl,?_⟩⟩
  simp only[aN,h2]
  rw[if_pos (by simp[iB]),List.drop_zero,<- iB,List.take_left']
  rfl
section
variable {P:Program} {w:World} {n:Nat} {t:TypeId} {cs:List Value}
section
variable {H:Type} {enc:TypeId×Value->H} {r:Reach} {base:Nat} {v:Value} {d:DataW H} {p:List MemPlace}
theorem TB{T:Type}{pv:T->List PV}{Q:T->Prop}{fs:Array Field}(ht:P.underlying t=some (.struct fs))(he:∀m cs,Reads P w m t cs->∃s,aY (fj w) (pv s) cs/\Q s)(hv:Value.okWide P w r base t v)(h:DataW.Trod enc P w 0 (λ_=>true) true t v d p):
  ∃s,bw (fj w) (.agg (pv s)) v/\Q s:=by
 simp only[Value.okWide,ht]at hv
 obtain⟨cs,rfl,_,_⟩:=hv
 obtain⟨n,hn⟩:=Reads.of h
 obtain⟨s,e,hq⟩:=he n _ hn
 exact⟨s,e.mR,hq⟩
theorem EA{T:Type}{pv:T->List PV}{Q:T->Prop}{e:TypeId}{sz:Nat}(ht:P.underlying t=some (.slice e))(hc:P.cellsOf e=sz)(hz:sz≠0)(he:∀m cs,Reads P w m e cs->∃s,aY (fj w) (pv s) cs/\Q s)(hv:Value.okWide P w r base t v)(h:DataW.Trod enc P w 0 (λ_=>true) true t v d p):
  ∃l:List T,bw (fj w) (.list sz .sh (l.map pv)) v/\(∀s∈l,Q s)/\l.length<=maxLen:=by
 obtain⟨a,len,cap,rfl⟩:=WideShapes.okWide_slice ht hv
 obtain⟨n,hn⟩:=Reads.of h
 obtain⟨l,h2,h3,h4⟩:=hn.lK ht hc hz (λm cs _ hr=>he m cs hr)
 obtain⟨v,vs,e,_,hr,_⟩:=h2.inv
 simp only[Value.cells,List.cons.injEq]at e
 refine⟨l,?_,h3,h4⟩
 rw[e.1];exact hr
end
end
structure Bind where
 v:ByteArray
 s:Sym
@[reducible] def Bind.pv(b:Bind):List PV:=[pS b.v,pI b.s.k,pS b.s.t,pI b.s.n]
structure Test where
 rel:Int
 var:ByteArray
 sym:Sym
 list:List Sym
@[reducible] def Test.pv(t:Test):List PV:=[pI t.rel,pS t.var,pI t.sym.k,pS t.sym.t,pI t.sym.n,.list 3 .sh (t.list.map Sym.pv)]
inductive an where
 |mk (kind:Int) (goal:Bool) (id:ByteArray) (attr value:List Test) (acc:Bool) (conds:List an)
namespace an
def kind:an->Int| .mk k _ _ _ _ _ _=>k
def goal:an->Bool| .mk _ g _ _ _ _ _=>g
def id:an->ByteArray| .mk _ _ i _ _ _ _=>i
def attr:an->List Test| .mk _ _ _ a _ _ _=>a
def value:an->List Test| .mk _ _ _ _ v _ _=>v
def acc:an->Bool| .mk _ _ _ _ _ a _=>a
def conds:an->List an| .mk _ _ _ _ _ _ c=>c
end an
mutual
def an.pv:an->List PV
 | .mk k g i a v ac cs=>[pI k,pB g,pS i,.list 6 .sh (a.map Test.pv),.list 6 .sh (v.map Test.pv),pB ac,.list 7 .sh (an.pvs cs)]
def an.pvs:List an->Lq
 |[]=>[]
 |c::cs=>an.pv c::an.pvs cs
end
theorem an.Pb:∀cs:List an,an.pvs cs=cs.map an.pv
 |[]=>rfl
 |c::cs=>by simp[an.pvs,an.Pb cs]
theorem an.jf(c:an):c.pv=[pI c.kind,pB c.goal,pS c.id,.list 6 .sh (c.attr.map Test.pv),.list 6 .sh (c.value.map Test.pv),pB c.acc,.list 7 .sh (c.conds.map an.pv)]:=by
 cases c;simp only[an.pv,an.Pb];rfl
theorem an.ind{Q:an->Prop}(h:∀c:an,(∀d∈c.conds,Q d)->Q c):∀c,Q c:=by
 intro c
 exact an.rec (motive_1:=Q) (motive_2:=λl=>∀d∈l,Q d) (λk g i a v ac cs ih=>h _ ih) (λd hd=>by cases hd) (λc cs h1 h2 d hd=>by
  rcases List.mem_cons.1 hd with rfl|hd
  ·exact h1
  ·exact h2 d hd) c
structure Atom where
 var:ByteArray
 sym:Sym
@[reducible] def Atom.pv(a:Atom):List PV:=[pS a.var,pI a.sym.k,pS a.sym.t,pI a.sym.n]
structure Term where
 op:Int
 a:Atom
 b:Atom
@[reducible] def Term.pv(t:Term):List PV:=[pI t.op,pS t.a.var,pI t.a.sym.k,pS t.a.sym.t,pI t.a.sym.n,pS t.b.var,pI t.b.sym.k,pS t.b.sym.t,pI t.b.sym.n]
structure kt where
 id:ByteArray
 attr:Atom
 value:Term
 Cr:Int
 other:Atom
@[reducible] def kt.pv(a:kt):List PV:=[pS a.id,pS a.attr.var,pI a.attr.sym.k,pS a.attr.sym.t,pI a.attr.sym.n,pI a.value.op,pS a.value.a.var,pI a.value.a.sym.k,pS a.value.a.sym.t,pI a.value.a.sym.n,pS a.value.b.var,pI a.value.b.sym.k,pS a.value.b.sym.t,pI a.value.b.sym.n,pI a.Cr,pS a.other.var,pI a.other.sym.k,pS a.other.sym.t,pI a.other.sym.n]
structure Prod where
 name:ByteArray
 conds:List an
 dW:List kt
@[reducible] def Prod.pv(p:Prod):List PV:=[pS p.name,.list 7 .sh (p.conds.map an.pv),.list 19 .sh (p.dW.map kt.pv)]
theorem zr{α:Type}{p:α->Bool}{l:List α}{k:Nat}(hk:k<l.length)(h:(l.take k).any p=false):(l.take (k+1)).any p=p l[k]:=by
 rw[List.take_add_one,List.any_append,h,List.getElem?_eq_getElem hk];simp
theorem Ja{α:Type}{p:α->Bool}{l:List α}{k:Nat}(hk:k<l.length)(h:p l[k]=true):l.any p=true:=List.any_eq_true.2 ⟨_,List.getElem_mem hk,h⟩
theorem Lb{α:Type}{p:α->Bool}{l:List α}{k:Nat}(hk:k<l.length)(h:(l.take k).all p=true):(l.take (k+1)).all p=p l[k]:=by
 rw[List.take_add_one,List.all_append,h,List.getElem?_eq_getElem hk];simp
theorem Lc{α:Type}{p:α->Bool}{l:List α}{k:Nat}(hk:k<l.length)(h:p l[k]=false):l.all p=false:=by
 cases ha:l.all p with
 |false=>rfl
 |true=>rw[List.all_eq_true.1 ha _ (List.getElem_mem hk)]at h;cases h
theorem CD{α β:Type}{f:α->β}{l:List α}{k:Nat}(hk:k<l.length):(l.take (k+1)).map f=(l.take k).map f++[f l[k]]:=by
 rw[List.take_add_one,List.getElem?_eq_getElem hk,List.map_append];rfl
theorem S_{α:Type}{l:List α}{k:Nat}(h:¬k<l.length):l.take k=l:=List.take_of_length_le (by omega)
@[reducible] def bL(t:ByteArray):List UInt8:=t.data.toList
theorem IX(t:ByteArray):(bL t).length=t.size:=rfl
theorem RL{t:ByteArray}{k:Nat}(hk:k<t.size):t[Int.toNat (k:Int)]?=some (bL t)[k]:=by
 rw[Int.toNat_natCast,getElem?_pos t k hk];rfl
theorem bx.mem{T:Type}{c:T->T->Int}(hc:kQ c){L:List T}{x:T}{k:Nat}{there:Bool}(h:bx c L x k there):there=true↔x∈L:=by
 refine⟨λht=>?_,λhx=>?_⟩
 ·obtain⟨hk,e⟩:=h.Qw ht;rw[<- e];exact List.getElem_mem hk
 ·cases there with
  |true=>rfl
  |false=>
   obtain⟨i,hi,e⟩:=List.mem_iff_getElem.1 hx
   have hz:c L[i] x=0:=(hc.zero _ _).2 e
   by_cases hk:i<k
   ·have:=h.low i hi hk;omega
   ·have:=h.Me rfl i hi (by omega);omega
theorem bx.put{T:Type}{c:T->T->Int}(hc:kQ c){L:List T}{x:T}{k:Nat}(h:bx c L x k false)(hu:Up c L):Up c (L.take k++x::L.drop k):=by
 have dZ:L.Pairwise λa b=>c a b<0:=hu
 rw[<- List.take_append_drop k L,List.pairwise_append]at dZ
 refine List.pairwise_append.2 ⟨dZ.1,List.pairwise_cons.2 ⟨λb hb=>?_,dZ.2.1⟩,λa ha b hb=>?_⟩
 ·obtain⟨i,hi,e⟩:=List.mem_iff_getElem.1 hb
  rw[List.getElem_drop]at e
  rw[<- e]
  exact(hc.flip _ _).2 (h.Me rfl _ _ (by omega))
 ·rcases List.mem_cons.1 hb with rfl|hb
  ·obtain⟨i,hi,e⟩:=List.mem_iff_getElem.1 ha
   rw[List.getElem_take]at e
   rw[<- e]
   exact h.low _ _ (by simp at hi;omega)
  ·exact dZ.2.2 a ha b hb
theorem bx.YN{T:Type}{L:List T}{x y:T}{k:Nat}:y∈L.take k++x::L.drop k↔y=x\/y∈L:=by
 rw[List.mem_append,List.mem_cons]
 have e:y∈L↔y∈L.take k\/y∈L.drop k:=by rw[<- List.mem_append,List.take_append_drop]
 rw[e]
 constructor
 ·rintro(h|h|h)
  ·exact .inr (.inl h)
  ·exact .inl h
  ·exact .inr (.inr h)
 ·rintro(h|h|h)
  ·exact .inr (.inl h)
  ·exact .inl h
  ·exact .inr (.inr h)
theorem Ow.fact{p:Prop}{A:bk}{L:List bk}{μ:Mem}(h:Ow (A::L) μ)(hp:∀μ,A μ->p):p:=by
 obtain⟨μ1,μ2,hs,e,hA,hL⟩:=h
 exact hp _ hA
section
variable {T κ:Type} (ck:κ->κ->Int) (key:T->κ)
def Yx(k:κ)(L:List T):Nat:=(L.filter (CG ck key k)).length
end
section
variable {T κ:Type} {ck:κ->κ->Int} {key:T->κ}
section
variable {L:List T} {x:κ} {k:Nat}
theorem bx.pos{there:Bool}(hc:kQ ck)(h:bx ck (L.map key) x k there)(hu:dh ck key L):k=Yx ck key x L:=by
 unfold Yx
 rw[oT (k:=k) h.leK (λi hi oO=>?_) (λi hi oO=>?_)]
 ·simp[h.leK]
 ·have:=h.PJ i hi oO;simp[CG];omega
 ·cases there with
  |false=>have:=h.Kh i hi oO;simp[CG];omega
  |true=>
   obtain⟨hk,e⟩:=h.Zp
   by_cases hik':i=k
   ·subst hik';simp[CG,e,hc.self]
   ·have h1:=hu.up.lt (i:=k) (j:=i) (by omega) (by simpa using hi)
    simp only[List.getElem_map]at h1
    rw[e]at h1
    have:=(hc.flip _ _).1 h1
    simp[CG];omega
theorem bx.isSome{there:Bool}(hc:kQ ck)(h:bx ck (L.map key) x k there)(hu:dh ck key L):there=(bI ck key x L).isSome:=by
 cases there with
 |false=>rw[h.none hc];rfl
 |true=>obtain⟨_,e⟩:=h.some hc hu;rw[e];rfl
end
end
theorem eK:kQ fB:=⟨λa b=>by unfold fB;split<;>(try split)<;>omega,λa b=>by unfold fB;repeat' split<;>omega,λa b d=>by unfold fB;repeat' split<;>omega⟩
section
variable (D:SD) (a0:Option Addr) (u0:Mem) (K:Kq) (c:List PV) (e:PV)
def SD.place(ff:FuncId):Prop:=
 ae (Option.isNone a0)
 (K (.aC [pI (0),pB false]) u0)
 (ab D.P ff [pA a0,e] u0 λv u=>
  ∃p q,v=(.aC [pI p,pB q])/\K (.aC [pI p,pB q]) u)
end
namespace Jh
variable {D:SD} {El κ:Type} {pr:El->List PV} {arg:El->PV} {key:El->κ} {ck:κ->κ->Int} (S:Jh D pr arg key ck)
include S
variable {nf:FuncId} (hf:∀{x:El} {a0:Option Addr} {u0:Mem} {K:Kq},D.find a0 u0 K (arg x)->ab D.P nf [pA a0,arg x] u0 K)
section
include hf
theorem gL{n:FuncId}(hn:∀{x:El} {a0:Option Addr} {u0:Mem} {K:Kq},D.place a0 u0 K (arg x) nf->ab D.P n [pA a0,arg x] u0 K) ⦃L:List bk⦄ ⦃μ:Mem⦄ ⦃b:Nat⦄ ⦃l:List El⦄ (hO:Ow (bp D.TS D.TE D.W b (l.map pr)::L) μ) (hu:dh ck key l) (hl:l.length<=4000000000000000000) (x:El) ⦃K:Kq⦄ (hk:K (.aC [pI (Yx ck key (key x) l:Nat),pB (bI ck key (key x) l).isSome]) μ):ab D.P n [pP b 0,arg x] μ K:=by
 obtain⟨F,h,_⟩:=bp.split hO
 refine hn (ae.f rfl (S.qh hf h hu hl x λk t hf=>⟨_,_,rfl,?_⟩))
 rw[hf.pos S.hc hu,hf.isSome S.hc hu];exact hk
end
end Jh
end Go.az
namespace Go.az
open Go.RowKit
theorem Lv{X:List PV}{sz o m:Nat}(h:o+m<=sz):(X.drop o).take m=((X.take sz).drop o).take m:=by
 rw[List.drop_take,List.take_take,Nat.min_eq_left (by omega)]
theorem Yp{cs r:List PV}{A sz o m:Nat}(hr:(cs.drop A).take sz=r)(h:o+m<=sz):(cs.drop (A+o)).take m=(r.drop o).take m:=by
 rw[<- hr,<- Lv h,List.drop_drop]
theorem XA{cs r vs:List PV}{A sz o:Nat}(hA:A+sz<=cs.length)(hr:(cs.drop A).take sz=r)(h:o+vs.length<=sz):ei cs (A+o) vs=ei cs A (ei r o vs):=by
 have Ag:r.length=sz:=by rw[<- hr,List.length_take,List.length_drop];omega
 unfold ei
 have e1:cs.take (A+o)=cs.take A++r.take o:=by
  rw[List.take_add,<- hr,List.take_take,Nat.min_eq_left (by omega)]
 have e2:cs.drop (A+o+vs.length)=r.drop (o+vs.length)++cs.drop (A+sz):=by
  have:cs.drop (A+o+vs.length)=(cs.drop A).drop (o+vs.length):=by rw[List.drop_drop];congr 1;omega
  rw[this]
  have h2:cs.drop A=r++cs.drop (A+sz):=by
   rw[<- hr,<- List.drop_drop,List.take_append_drop]
  conv=>lhs;rw[h2]
  rw[List.drop_append_of_le_length (by omega)]
 have e3:(r.take o++vs++r.drop (o+vs.length)).length=sz:=by
  simp only[List.length_append,List.length_take,List.length_drop];omega
 rw[e1,e2,e3]
 simp
theorem jD.at_{e:TypeId}{sz n c:Nat}{a:Option Addr}{rows:Lq}{L:List bk}{μ:Mem}(i:Nat)(hO:Ow L μ)(hi:L[i]?=some (jD e sz (.raw (.slice a n c)) rows))(hr:∀r∈rows,r.length=sz){j:Nat}(hj:j<rows.length):
  ∃b,a=some ⟨b,0,none⟩/\(∀o m,o+m<=sz->aN μ b (0+j*sz+o) m=some ((rows[j].drop o).take m))/\
   ∀(o:Nat) (vs:List PV) (K:Mem->Prop),o+vs.length<=sz->(∀μ',Ow (L.set i (jD e sz (.raw (.slice a n c)) (rows.set j (ei rows[j] o vs)))) μ'->K μ')->stM b (0+j*sz+o) vs μ K:=by
 have MI:=Ow.at i hi hO
 obtain⟨F,hv,μ1,μ2,hs,e0,hF,hL⟩:=jD.split MI
 rcases hv with⟨_,rfl,_⟩|⟨b,c',rest,hp,rfl,hm,hlen,hc⟩
 ·simp at hj
 ·simp only[PV.raw.injEq,Value.slice.injEq]at hp
  obtain⟨rfl,rfl,rfl⟩:=hp
  have iB:rows.flatten.length=rows.length*sz:=dw hr
  have hle:j*sz+sz<=rows.length*sz:=by rw[<- Nat.succ_mul];exact Nat.mul_le_mul_right _ hj
  have gW:((rows.flatten++rest).drop (j*sz)).take sz=rows[j]:=by
   have:=Ep (s:=j) hr hm (List.getElem?_eq_getElem hj)
   simp only[aN,hm]at this
   split at this
   ·simpa using this
   ·cases this
  refine⟨b,rfl,λo m h=>?_,λo vs K h hK=>?_⟩
  ·have:aN μ b (0+j*sz+o) m=some (((rows.flatten++rest).drop (0+j*sz+o)).take m):=by
    simp only[aN,hm]
    rw[if_pos (by rw[List.length_append,iB];omega)]
   rw[this,Nat.zero_add,Yp gW h]
  ·have Ag:rows[j].length=sz:=hr _ (List.getElem_mem hj)
   have hwl:(ei rows[j] o vs).length=sz:=by
    unfold ei
    simp only[List.length_append,List.length_take,List.length_drop];omega
   refine⟨_,_,hm,by rw[List.length_append,iB];omega,hK _ (Ow.back i (uZ hi) ?_)⟩
   rw[Nat.zero_add,XA (by rw[List.length_append,iB];omega) gW h,AG hr hj hwl]
   refine Ow.mv (A:=λ_=>True) (F:=[b]) (F':=[b]) ⟨μ1,μ2,hs,e0,hF,hL⟩ ((Mv.set (.inl (by simp))).sub (by simp)) λν hν=>⟨[b],.inr ⟨b,c,rest,by simp,rfl,?_,by simpa using hlen,by simpa using hc⟩⟩
   rw[hν b (by simp),Mem.ai]
theorem jD.len{e:TypeId}{sz n c:Nat}{a:Option Addr}{rows:Lq}{L:List bk}{μ:Mem}(i:Nat)(hO:Ow L μ)(hi:L[i]?=some (jD e sz (.raw (.slice a n c)) rows)):n=rows.length:=by
 obtain⟨F,hv,_⟩:=jD.split (Ow.at i hi hO)
 rcases hv with⟨hp,rfl,_⟩|⟨b,c',rest,hp,_⟩
 ·simp only[PV.raw.injEq,Value.slice.injEq]at hp;simp[hp.2.1]
 ·simp only[PV.raw.injEq,Value.slice.injEq]at hp;exact hp.2.1
def Sc(P:Program)(f:PV)(items:List (List PV->bk))(A A':bk):Prop:=
 (∃g a b,f=.fn (.func g) a b)/\∀(fy:Fn) (ya yb:List PV) (I:Nat->bk) (S:bk) (C:bk) (μ:Mem),qy fy True->Ow [A,C] μ->(∀μ',Ow [A',C] μ'->Ow [I 0] μ')->
  (∀(k:Nat) (h:k<items.length) (vs:List PV) (μ:Mem),Ow [items[k] vs,I k] μ->bc P (.fn fy ya yb) vs μ λv μ'=>(v=pB true/\Ow [I (k+1)] μ')\/(v=pB false/\Ow [S] μ'))->
  bc P f [.fn fy ya yb] μ λ_ μ'=>Ow [I items.length] μ'\/Ow [S] μ'
theorem Sc.mk{P:Program}{g:FuncId}{a b:List PV}{items:List (List PV->bk)}{A A':bk}
  (h:∀(fy:Fn) (ya yb:List PV) (I:Nat->bk) (S:bk) (C:bk) (μ:Mem),qy fy True->Ow [A,C] μ->(∀μ',Ow [A',C] μ'->Ow [I 0] μ')->
   (∀(k:Nat) (h:k<items.length) (vs:List PV) (μ:Mem),Ow [items[k] vs,I k] μ->bc P (.fn fy ya yb) vs μ λv μ'=>(v=pB true/\Ow [I (k+1)] μ')\/(v=pB false/\Ow [S] μ'))->
   ab P g (a++[.fn fy ya yb]++b) μ λ_ μ'=>Ow [I items.length] μ'\/Ow [S] μ'):Sc P (.fn (.func g) a b) items A A':=
 ⟨⟨g,a,b,rfl⟩,λfy ya yb I S C μ hy h0 h1 cQ=>h fy ya yb I S C μ hy h0 h1 cQ⟩
theorem bJ.ac3{P:Program}{f:PV}{items:List (List PV->bk)}{A A':bk}{L:List bk}{body:List PV->(Option Code->Mem->Prop)->Mem->Prop}{K:Option Code->Mem->Prop}{μ:Mem}(hs:Sc P f items A A')(hO:Ow (A::L) μ)
  (I:Nat->bk) (S:Code->bk) (hI:∀k,eG (I k)) (hS:∀c,eG (S c)) (h0:∀μ',Ow (A'::L) μ'->I 0 μ')
  (cQ:∀(k:Nat) (h:k<items.length) (vs:List PV) (μ:Mem) (R:Option Code->Mem->Prop),Ow [items[k] vs,I k] μ->(∀μ',I (k+1) μ'->R none μ')->(∀c μ',S c μ'->R (some c) μ')->body vs R μ)
  (Qy:∀μ,I items.length μ->K none μ) (Fg:∀c μ,S c μ->K (some c) μ):bJ P f body K μ:=by
 obtain⟨hf,hs⟩:=hs
 refine⟨hf,λl rec hl hy=>?_⟩
 have cut:∀{ν:Mem} {o:Ob} {M:List bk},Ow (Rc l o::M) ν->ν l=some o/\Ow M (ν.set l none):=λ{ν o M} h=>by
  obtain⟨ν1,ν2,kZ,rfl,hR,hM⟩:=h
  refine⟨Mem.aX hR,hM.mono λb o' hb=>?_⟩
  have zR:ν1 b=none:=(kZ b).resolve_right (by rw[hb];simp)
  have bm:b≠l:=by
   rintro rfl
   have:ν1 b=_:=hR
   rw[this]at zR;cases zR
  rw[Mem.aw _ _ bm,Mem.bg zR];exact hb
 have glue:∀{ν:Mem} {o:Ob},ν l=some o->ν=(ν.set l none).set l (some o):=λ{ν o} h=>by
  rw[Mem.set_set,Mem.s_ h]
 have lift:∀{ν μ3:Mem} {o:Ob} {ν1 ν2:Mem},μ3 l=none->ν1=μ3.set l (some o)->Mem.sep ν1 ν2->ν=ν1.or ν2->ν l=some o/\∀b o',μ3 b=some o'->(ν.set l none) b=some o':=λ{ν μ3 o ν1 ν2} h1 h2 kZ e=>by
  subst h2 e
  refine⟨Mem.aX (Mem.ai _ _ _),λb o' hb=>?_⟩
  have bm:b≠l:=by rintro rfl;rw[h1]at hb;cases hb
  rw[Mem.aw _ _ bm]
  exact Mem.aX (by rw[Mem.aw _ _ bm];exact hb)
 refine(hs (.yield l) [] [] (λk ν=>∃μ3,μ3 l=none/\ν=μ3.set l (some (rec none))/\I k μ3) (λν=>∃c μ3,μ3 l=none/\ν=μ3.set l (some (rec (some c)))/\S c μ3) (Ow (Rc l (rec none)::L)) _ trivial ?_ (λμ' MJ=>Ow.one ?_) ?_).mono ?_
 ·have h1:Ow (Rc l (rec none)::A::L) (μ.set l (some (rec none))):=by
   refine⟨M0.set l (some (rec none)),μ,λx=>?_,?_,Mem.ai _ _ _,hO⟩
   ·by_cases e:x=l
    ·subst e;exact .inr hl
    ·rw[Mem.aw _ _ e];exact .inl rfl
   ·funext x
    by_cases e:x=l
    ·subst e;rw[Mem.ai,Mem.aX (Mem.ai _ _ _)]
    ·rw[Mem.aw _ _ e,Mem.bg (by rw[Mem.aw _ _ e];rfl)]
  refine h1.swap.tail λν hν=>Ow.one hν
 ·have h1:Ow (A'::(Rc l (rec none)::L)) μ':=MJ.tail λν hν=>hν.TD
  obtain⟨h2,h3⟩:=cut h1.swap
  exact⟨_,Mem.ai _ _ _,glue h2,h0 _ h3⟩
 ·rintro k hk vs ν ⟨ν1,ν2,kZ,e,Qw,ν3,ν4,Wn,e2,⟨μ3,h1,h2,Sw⟩,_⟩
  obtain⟨h4,h5⟩:=lift h1 h2 Wn e2
  have NC:ν1 l=none:=(kZ l).resolve_right (by rw[h4];simp)
  have hνl:ν l=some (rec none):=by rw[e,Mem.bg NC];exact h4
  have MJ:Ow [items[k] vs,I k] (ν.set l none):=by
   refine⟨ν1,ν2.set l none,λx=>?_,?_,Qw,Ow.one (hI k _ _ h5 Sw)⟩
   ·by_cases ex:x=l
    ·subst ex;exact .inr (Mem.ai _ _ _)
    ·rw[Mem.aw _ _ ex];exact kZ x
   ·funext x
    by_cases ex:x=l
    ·subst ex;rw[Mem.ai,Mem.bg NC,Mem.ai]
    ·rw[Mem.aw _ _ ex,e]
     cases hx:ν1 x with
     |some o=>rw[Mem.aX hx,Mem.aX hx]
     |none=>rw[Mem.bg hx,Mem.bg hx,Mem.aw _ _ ex]
  rw[glue hνl]
  refine(hy vs (ν.set l none) (λp μ'=>match p with|none=>I (k+1) μ'|some c=>S c μ') (Mem.ai _ _ _) (cQ k hk vs _ _ MJ (λμ' h=>h) (λc μ' h=>h))).mono ?_
  rintro v μ2 ⟨p,μ4,rfl,h3,rfl,hR⟩
  cases p with
  |none=>exact .inl ⟨rfl,Ow.one ⟨μ4,h3,rfl,hR⟩⟩
  |some c=>exact .inr ⟨rfl,Ow.one ⟨c,μ4,h3,rfl,hR⟩⟩
 ·rintro v ν (h|h)
  ·obtain⟨ν1,ν2,kZ,e,⟨μ3,h1,h2,h3⟩,_⟩:=h
   obtain⟨h4,h5⟩:=lift h1 h2 kZ e
   exact⟨none,ν.set l none,Mem.ai _ _ _,glue h4,Qy _ (hI _ _ _ h5 h3)⟩
  ·obtain⟨ν1,ν2,kZ,e,⟨c,μ3,h1,h2,h3⟩,_⟩:=h
   obtain⟨h4,h5⟩:=lift h1 h2 kZ e
   exact⟨some c,ν.set l none,Mem.ai _ _ _,glue h4,Fg c _ (hS _ _ _ h5 h3)⟩
theorem ZQ{Z:Fz}{u:UW}{μ:Mem}{b:Nat}{T:TypeId}{cs:List PV}{r:Value}(hg:Good Z u μ)(hb:μ b=some (.cells T cs))(hc:aE cs=true)(hr:bw Z (pP b 0) r):bw (jx Z u λx=>if x∈[b]then μ x else none) (.bl cs 0) r:=by
 have gs:Good Z u (λx=>if x∈[b]then μ x else none):=hg.sub λx o hx=>by
  by_cases hm:x∈[b]
  ·simpa[hm]using hx
  ·simp[hm]at hx
 obtain⟨A,hz,hm⟩:=Lf (cs:=cs) gs (b:=b) (by simp[hb,cellsOf])
 rw[hr.ofRaw.1]
 have lS:=(hm.mono (iF gs)).c hc
 refine .bl cs 0 b 0 A.toList (λj=>(A.toList[j]?).getD undef) hz (λj hj=>?_) (λj p hp=>?_) (λj p hp=>?_)
 ·have bB:j<A.toList.length:=by rw[hm.1];exact hj
  rw[Nat.zero_add,List.getElem?_eq_getElem bB];rfl
 ·exact List.all_eq_true.1 hc p (List.mem_of_getElem? hp)
 ·have bB:j<A.toList.length:=by rw[hm.1];exact(List.getElem?_eq_some_iff.1 hp).1
  have:=lS.2 j p A.toList[j] hp (List.getElem?_eq_getElem bB)
  simp only[List.getElem?_eq_getElem bB,Option.getD_some];exact this.2
structure Goal where
 st:Sym
 kind:Int
 attr:ByteArray
 items:List Sym
 op:Sym
structure eC where
 id:Sym
 attr:Sym
 value:Sym
 other:Sym
 kind:Int
 o:Bool
 level:Int
 Gb:Int
structure ma where
 num:Int
 level:Int
 name:ByteArray
 tags:List Int
 o:Bool
structure a_ where
 elems:List av
 aS:List eC
 goals:List Goal
 insts:List ma
 cD:List (List Int)
 JX:List ByteArray
 syms:Int
 c1:Int
 c2:Int
 c3:Int
 c4:Int
 c5:Int
 c6:Int
@[reducible] def HW(n:Int):List PV:=[pI n]
@[reducible] def Goal.pv(g:Goal):List PV:=[pI g.st.k,pS g.st.t,pI g.st.n,pI g.kind,pS g.attr,.list 3 .sh (g.items.map Sym.pv),pI g.op.k,pS g.op.t,pI g.op.n]
@[reducible] def eC.pv(p:eC):List PV:=[pI p.id.k,pS p.id.t,pI p.id.n,pI p.attr.k,pS p.attr.t,pI p.attr.n,pI p.value.k,pS p.value.t,pI p.value.n,pI p.other.k,pS p.other.t,pI p.other.n,pI p.kind,pB p.o,pI p.level,pI p.Gb]
@[reducible] def ma.pv(i:ma):List PV:=[pI i.num,pI i.level,pS i.name,.list 1 .sh (i.tags.map HW),pB i.o]
@[reducible] def Da(l:List Int):List PV:=[.list 1 .sh (l.map HW)]
@[reducible] def OG(s:ByteArray):List PV:=[pS s]
@[reducible] def a_.pv(v:a_):List PV:=[.list 12 .sh (v.elems.map av.pv),.list 16 .sh (v.aS.map eC.pv),.list 9 .sh (v.goals.map Goal.pv),.list 5 .sh (v.insts.map ma.pv),.list 1 .sh (v.cD.map Da),.list 1 .sh (v.JX.map OG),pI v.syms,pI v.c1,pI v.c2,pI v.c3,pI v.c4,pI v.c5,pI v.c6]
end Go.az
namespace Go.Proofs.YtbkejjmjopgpoaaGreat
open Go.Proofs.Tryz Go.az Go.RowKit
namespace KS
end KS
namespace KE
end KE
namespace KA
abbrev El:=Int
@[reducible] def pv(x:El):List PV:=[pI x]
@[reducible] def arg(x:El):PV:=pI x
def key(x:El):Int:=x
abbrev ck:Int->Int->Int:=fB
theorem hc:kQ ck:=eK
theorem zh(a b:El):Pure prog 505 [arg a,arg b] (pI (ck (key a) (key b))):=by
 refine ax.of (mP.c ?_)
 refine ae.mk (λh=>?_) (λh=>ae.mk (λh1=>?_) (λh1=>?_))<;>simp only[decide_eq_true_eq,decide_eq_false_iff_not]at* <;>simp only[fB,wk,cu,key]
 ·rw[if_pos h]
 ·rw[if_neg h,if_pos h1]
 ·rw[if_neg h,if_neg h1]
@[reducible] noncomputable def D:SD:=⟨prog,140,93,1,8,505,λQ=>∃x,Q [pI x],λr=>r.headD .au,[pI (0)]⟩
abbrev At(b:Nat)(l:List El):bk:=bp 140 93 1 b (l.map pv)
theorem uC:Jh D pv arg key ck:=⟨λx Q h=>⟨_,h⟩,λ_=>rfl,λ_=>rfl,λ_=>rfl,λ_=>rfl,hc,zh,λv=>by kernel_rfl,rfl,by decide,by decide⟩
theorem eD{x:El}{a0:Option Addr}{u0:Mem}{K:Kq}(h:D.find a0 u0 K (arg x)):ab prog 76 [pA a0,arg x] u0 K:=VC [] [(2,⟨[(6,.one (.raw (.int .i64))),(7,.one (.raw (.int .i64)))],[]⟩)] [] [] [] [] [] func76 h
theorem tz{x:El}{a0:Option Addr}{u0:Mem}{K:Kq}(h:D.place a0 u0 K (arg x) 76):ab prog 113 [pA a0,arg x] u0 K:=VC [] [] [] [] [] [] [] func113 h
def gL:=uC.gL eD tz
theorem lM{a0:Option Addr}{u0:Mem}{K:Kq}(h:D.own a0 u0 K):ab prog 77 [pA a0] u0 K:=VC [] [] [] [] [] [] [] func77 h
theorem oz{x:El}{a0:Option Addr}{u0:Mem}{K:Kq}(h:D.put a0 u0 K (pv x) (arg x) 76 77):ab prog 33 [pA a0,arg x] u0 K:=VC [] [(9,⟨[(7,.one (.raw (.int .i64)))],[]⟩)] [] [] [] [] [23,32,43,48,57] func33 h
def f_:=uC.f_ eD lM oz
theorem oA{fl:Fl}{l:Lq}{u0:Mem}{K:Kq}(h:D.new u0 K 33 l):ab prog 30 [.list 1 fl l] u0 K:=VC [] [(3,⟨[(10,.one (.raw (.int .i64)))],[]⟩)] [] [] [] [] [] func30 h
def gX:=uC.gX f_ oA
end KA
end Go.Proofs.YtbkejjmjopgpoaaGreat
namespace Go.az
open Go.RowKit
def vK(b:Nat)(T:TypeId)(sz:Nat)(rows:Lq):bk:=λμ=>∃f,Ow [Pt b T [.list sz f rows],m_ f rows.length sz] μ
theorem vK.new{b:Nat}{T:TypeId}{sz:Nat}{L:List bk}{μ:Mem}(h:Ow (Pt b T [.list sz .nil []]::L) μ):Ow (vK b T sz []::L) μ:=by
 have h1:Ow ([Pt b T [.list sz .nil []],m_ .nil 0 sz]++L) μ:=h.tail λ_ h=>h.nil (.inl rfl)
 exact h1.pack.imp λ_ h=>⟨.nil,h⟩
theorem vK.rd{L:List bk}{μ:Mem}(i:Nat){b:Nat}{T:TypeId}{sz:Nat}{rows:Lq}(hO:Ow L μ)(hi:L[i]?=some (vK b T sz rows)):∃f,aN μ b 0 1=some [.list sz f rows]:=by
 obtain⟨f,h⟩:=Ow.ex (Ow.at i hi hO)
 exact⟨f,(h.nest (L1:=[Pt b T [.list sz f rows],m_ f rows.length sz])).rd 0 rfl (by simp)⟩
theorem vK.go{L:List bk}{μ:Mem}(i:Nat){b:Nat}{T:TypeId}{sz bytes:Nat}{rows new:Lq}{K:Mem->Prop}(hO:Ow L μ)(hi:L[i]?=some (vK b T sz rows))(hb:(rows.length+new.length)*bytes<=140737488355328)(nH:rows.length+new.length<4611686018427387904)
  (hk:∀μ',Ow (L.set i (vK b T sz (rows++new))) μ'->K μ'):∃(f:Fl) (rs:Lq),aN μ b 0 1=some [.list sz f rs]/\bF false sz bytes f rs new μ λf' u=>stM b 0 [.list sz f' (rs++new)] u λu'=>K u':=by
 obtain⟨f,h⟩:=Ow.ex (Ow.at i hi hO)
 have h1:Ow (Pt b T [.list sz f rows]::m_ f rows.length sz::L.eraseIdx i) μ:=h.nest (L1:=[Pt b T [.list sz f rows],m_ f rows.length sz])
 refine⟨f,rows,h1.rd 0 rfl (by simp),Ow.app h1.swap rfl hb nH λf' u h2=>?_⟩
 refine h2.st 1 rfl (by simp) λu' h3=>hk u' (Ow.back i (uZ hi) ?_)
 have h4:Ow (m_ f' (rows.length+new.length) sz::Pt b T [.list sz f' (rows++new)]::L.eraseIdx i) u':=h3
 have h5:Ow ([Pt b T [.list sz f' (rows++new)],m_ f' (rows++new).length sz]++L.eraseIdx i) u':=by
  rw[List.length_append];exact h4.swap
 exact h5.pack.imp λ_ h=>⟨f',h⟩
theorem Ow.aaS{L:List bk}{μ:Mem}{q:Bool}{size bytes:Nat}{rows new:Lq}{K:Fl->Mem->Prop}(hO:Ow L μ)(hb:(rows.length+new.length)*bytes<=140737488355328)(nH:rows.length+new.length<4611686018427387904)
  (hk:∀iD μ',Ow L μ'->K iD μ'):bF q size bytes .nr rows new μ K:=
 bF.go (fl:=.nr) trivial hb nH (λiD μ' _ h=>hk iD μ' (hO.mono λb o hb=>(h b o hb id).1)) (λ_ b c h=>by cases h)
structure a_.Ok(v:a_):Prop where
 e:v.elems.length<=1000
 p:v.aS.length<=1000
 g:v.goals.length<=1000
 i:v.insts.length<=1000
 d:v.cD.length<=1000
 ds:∀l∈v.cD,l.length<=1000
end Go.az
namespace Go.Proofs.YtbkejjmjopgpoaaGreat
open Go.az Go.RowKit
open Classical
theorem ib{l:List av}{k:Nat}(hk:k<l.length):(l.map av.pv)[Int.toNat (k:Int)]?=some l[k].pv:=aI hk
theorem fE{T:Type}{l:List T}{k:Nat}(hk:k<l.length):l.take (k+1)=l.take k++[l[k]]:=by rw[List.take_add_one,List.getElem?_eq_getElem hk];rfl
open Go.Proofs.Tryz
open Classical
theorem fm{T:Type}{l:List T}{k:Nat}(hk:k<l.length){x:T}:x∈l.take (k+1)↔x∈l.take k\/x=l[k]:=by rw[fE hk,List.mem_append,List.mem_singleton]
theorem Vf(v:a_)(hv:v.Ok)(t:Int):Pure prog 63 [.agg v.pv,pI t] (pB (decide (∃e∈v.elems,e.tag=t))):=by
 have he:=hv.e
 refine ax.of (sm.c ?_)
 rw[List.length_map]
 refine aj.each (n:=v.elems.length) (by omega) (λk u=>∀e∈v.elems.take k,e.tag≠t) (by simp) ?_ ?_
 ·rintro k u next hk hI ar
  refine ae.t (by simpa using hk) ⟨by omega,_,ib hk,_,rfl,ae.mk (λh=>?_) (λh=>ar _ λe he=>?_)⟩
  ·rw[decide_eq_true ⟨_,List.getElem_mem hk,by simpa using h⟩];rfl
  ·rcases(fm hk).1 he with he|rfl
   ·exact hI e he
   ·simpa using h
 ·rintro u next hI
  rw[List.take_length]at hI
  refine ae.f (by simp) ?_
  rw[decide_eq_false λ⟨e,he,h⟩=>hI e he h];rfl
open Classical
def sZ(v:a_):List Int:=cr fB KA.key [] (v.elems.map av.tag)
theorem OP(v:a_):dh fB KA.key (sZ v):=dV eK _ List.Pairwise.nil
theorem LH(v:a_):(sZ v).length<=v.elems.length:=by have:=(dp (key:=KA.key) eK (v.elems.map av.tag) (a:=[])).1;unfold sZ;simpa using this
theorem LI(v:a_)(t:Int):(bI fB KA.key t (sZ v)).isSome=decide (∃e∈v.elems,e.tag=t):=by
 rw[Bool.eq_iff_iff,eR eK,decide_eq_true_eq]
 unfold sZ
 rw[fY eK]
 constructor
 ·rintro(⟨x,hx,_⟩|⟨x,hx,h⟩)
  ·cases hx
  ·obtain⟨e,he,rfl⟩:=List.mem_map.1 hx
   exact⟨e,he,h⟩
 ·rintro⟨e,he,h⟩;exact .inr ⟨e.tag,List.mem_map_of_mem he,h⟩
mutual
def cP:an->Nat
 | .mk _ _ _ _ _ _ cs=>1+ao cs
def ao:List an->Nat
 |[]=>0
 |c::cs=>cP c+ao cs
end
theorem cT(c:an):cP c=1+ao c.conds:=by cases c;rfl
theorem sY(a b:List an):ao (a++b)=ao a+ao b:=by
 induction a with
 |nil=>simp[ao]
 |cons c a ih=>simp only[List.cons_append,ao,ih];omega
theorem fT{l:List an}{k:Nat}(hk:k<l.length):ao (l.take (k+1))=ao (l.take k)+(1+ao l[k].conds):=by
 rw[List.take_add_one,sY,List.getElem?_eq_getElem hk];simp[ao,cT]
theorem nU(l:List an)(k:Nat):ao l=ao (l.take k)+ao (l.drop k):=by rw[<- sY,List.take_append_drop]
theorem lJ{l:List an}{c:an}(h:c∈l):1+ao c.conds<=ao l:=by
 induction l with
 |nil=>cases h
 |cons d l ih=>
  simp only[ao]
  rcases List.mem_cons.1 h with rfl|h
  ·rw[cT];omega
  ·have:=ih h;omega
theorem gk(l:List an):l.length<=ao l:=by
 induction l with
 |nil=>simp
 |cons c l ih=>simp only[List.length_cons,ao,cT];omega
mutual
def ni:an->Nat->Nat->List (Nat×Nat×an)
 | .mk k g i a v ac cs,at_,deep=>(at_,deep,.mk k g i a v ac cs)::dR cs (at_+1) (deep+1)
def dR:List an->Nat->Nat->List (Nat×Nat×an)
 |[],_,_=>[]
 |c::cs,at_,deep=>ni c at_ deep++dR cs (at_+cP c) deep
end
theorem Tx(c:an)(at_ deep:Nat):ni c at_ deep=(at_,deep,c)::dR c.conds (at_+1) (deep+1):=by cases c;rfl
theorem oh:∀(a b:List an) (at_ deep:Nat),dR (a++b) at_ deep=dR a at_ deep++dR b (at_+ao a) deep
 |[],b,at_,deep=>by simp[dR,ao]
 |c::a,b,at_,deep=>by
  simp only[List.cons_append,dR,oh a b,ao,List.append_assoc]
  congr 3;omega
mutual
theorem Ey:∀(c:an) (at_ deep:Nat),(ni c at_ deep).length=cP c
 | .mk k g i a v ac cs,at_,deep=>by simp only[ni,List.length_cons,cP,og cs];omega
theorem og:∀(l:List an) (at_ deep:Nat),(dR l at_ deep).length=ao l
 |[],_,_=>rfl
 |c::cs,at_,deep=>by simp only[dR,List.length_append,Ey c,og cs,ao]
end
theorem nb{b:Bool}(h:(!b)=true):b=false:=by simpa using h
theorem LV{l:List an}{k:Nat}(hk:k<l.length)(a d:Nat):dR (l.take (k+1)) a d=dR (l.take k) a d++((a+ao (l.take k),d,l[k])::dR l[k].conds (a+ao (l.take k)+1) (d+1)):=by
 rw[List.take_add_one,oh,List.getElem?_eq_getElem hk]
 simp[dR,Tx]
theorem Tw{l:List an}{k:Nat}(hk:k<l.length)(a d:Nat):dR l a d=dR (l.take k) a d++((a+ao (l.take k),d,l[k])::dR l[k].conds (a+ao (l.take k)+1) (d+1))++dR (l.drop (k+1)) (a+ao (l.take (k+1))) d:=by
 rw[<- LV hk,<- oh,List.take_append_drop]
mutual
theorem Hl:∀(c:an) (a d k:Nat) (x:Nat×Nat×an),(ni c a d)[k]?=some x->x.1=a+k
 | .mk kk g i at' v ac cs,a,d,k,x,h=>by
   simp only[ni]at h
   cases k with
   |zero=>simp only[List.getElem?_cons_zero,Option.some.injEq]at h;subst h;rfl
   |succ k=>
    simp only[List.getElem?_cons_succ]at h
    have:=rK cs (a+1) (d+1) k x h;omega
theorem rK:∀(l:List an) (a d k:Nat) (x:Nat×Nat×an),(dR l a d)[k]?=some x->x.1=a+k
 |[],a,d,k,x,h=>by simp[dR]at h
 |c::cs,a,d,k,x,h=>by
  simp only[dR]at h
  by_cases hk:k<(ni c a d).length
  ·rw[List.getElem?_append_left hk]at h;exact Hl c a d k x h
  ·rw[List.getElem?_append_right (by omega)]at h
   have:=rK cs (a+cP c) d _ x h
   rw[Ey]at this hk
   omega
end
def oF(t:Test):Prop:=t.list.length<=40/\t.var.size<=100/\t.sym.t.size<=100
mutual
def iq:an->Prop
 | .mk _ _ i a v _ cs=>i.size<=100/\a.length<=40/\v.length<=40/\(∀t∈a,oF t)/\(∀t∈v,oF t)/\dT cs
def dT:List an->Prop
 |[]=>True
 |c::cs=>iq c/\dT cs
end
theorem im(c:an):iq c↔c.id.size<=100/\c.attr.length<=40/\c.value.length<=40/\(∀t∈c.attr,oF t)/\(∀t∈c.value,oF t)/\dT c.conds:=by cases c;rfl
theorem mA{l:List an}:dT l↔∀c∈l,iq c:=by
 induction l with
 |nil=>simp[dT]
 |cons c l ih=>simp[dT,ih]
mutual
theorem HS:∀(c:an) (a d:Nat) (x:Nat×Nat×an),iq c->x∈ni c a d->iq x.2.2
 | .mk k g i at' v ac cs,a,d,x,h,hx=>by
   simp only[ni,List.mem_cons]at hx
   rcases hx with rfl|hx
   ·exact h
   ·exact rP cs _ _ x ((im _).1 h).2.2.2.2.2 hx
theorem rP:∀(l:List an) (a d:Nat) (x:Nat×Nat×an),dT l->x∈dR l a d->iq x.2.2
 |[],a,d,x,_,hx=>by simp[dR]at hx
 |c::cs,a,d,x,h,hx=>by
  simp only[dR,List.mem_append]at hx
  rcases hx with hx|hx
  ·exact HS c a d x h.1 hx
  ·exact rP cs _ d x h.2 hx
end
theorem xq{l:List Test}(h:∀t∈l,oF t):∀t∈l,t.list.length<=1000000:=λt ht=>Nat.le_trans (h t ht).1 (by omega)
theorem KI(c:an):aA c.pv 0 7=some [pI c.kind,pB c.goal,pS c.id,.list 6 .sh (c.attr.map Test.pv),.list 6 .sh (c.value.map Test.pv),pB c.acc,.list 7 .sh (c.conds.map an.pv)]:=by rw[an.jf];rfl
theorem aav:∀(n:Nat) (fl:Fl) (l:List an) (qt deep:Nat),ao l<=n->qt<=1000->deep<=21->ax prog 104 [.list 7 fl (l.map an.pv),pI (qt:Nat),pI (deep:Nat)] λp=>∃r:Nat,p=pI (r:Nat)/\r<=qt+1/\(r<=qt->ao l=r):=by
 intro n
 induction n with
 |zero=>
  intro fl l qt deep h hm hd
  have:l=[]:=by
   cases l with
   |nil=>rfl
   |cons c l=>simp[ao,cT]at h
  subst this
  refine ax.of (kP.c ?_)
  refine ae.mk (λh=>⟨qt+1,?_,by omega,λh=>by omega⟩) (λh=>?_)
  ·rw[aB (by omega) (by omega)];rfl
  ·refine⟨λs _=>s=0,?_,?_⟩
   ·exact aj.up2 0 (by omega) (λk x u=>x=0) rfl λk x u next hk hx ar=>by
     have:k=0:=by omega
     subst this hx
     exact ae.f (by simp) rfl
   ·rintro s u rfl
    rw[aB (by omega) (by omega),if_neg (by omega)]
    exact⟨0,rfl,by omega,λ_=>rfl⟩
 |succ n ih=>
  intro fl l qt deep h hm hd
  refine ax.of (kP.c ?_)
  refine ae.mk (λh=>⟨qt+1,?_,by omega,λh=>by omega⟩) (λhdd=>?_)
  ·rw[aB (by omega) (by omega)];rfl
  ·have hdd:=of_decide_eq_false hdd
   refine⟨λs _=>∃m:Nat,s=(m:Int)/\m<=2*qt+2/\(m<=qt->ao l=m),?_,?_⟩
   ·refine aj.up2 (2*qt+5) (by omega) (λk x u=>∃m:Nat,x=(m:Int)/\k<=m/\m<=2*qt+2/\(m<=qt->ao (l.take k)=m)) ⟨0,rfl,by omega,by omega,λ_=>by simp[ao]⟩ ?_
    rintro k _ u next hk ⟨m,rfl,hkm,zP,eg⟩ ar
    refine ae.mk (λh1=>ae.mk (λh2=>?_) (λh2=>?_)) (λh1=>?_)
    ·have h1:=of_decide_eq_true h1
     have h2:=of_decide_eq_true h2
     simp only[List.length_map]at h1
     have eQ:k<l.length:=by omega
     have hs:=eg (by omega)
     have dv:=lJ (List.getElem_mem eQ)
     refine⟨by omega,_,aI eQ,.sh,l[k].conds.map an.pv,by rw[an.jf];rfl,?_⟩
     rw[aB (x:=(deep:Int)+1) (by omega) (by omega)]
     refine(ih .sh l[k].conds qt (deep+1) (by omega) hm (by omega)).call ?_
     rintro _ ⟨r,rfl,Zc,GC⟩
     refine⟨_,rfl,?_⟩
     dsimp only
     rw[aB (x:=(1:Int)+_) (by omega) (by omega),aB (x:=(m:Int)+_) (by omega) (by omega)]
     refine ar (by omega) _ _ ⟨m+1+r,by omega,by omega,by omega,λhle=>?_⟩
     rw[fT eQ,hs,GC (by omega)];omega
    ·have h2:=of_decide_eq_false h2
     exact⟨m,rfl,zP,λhle=>by omega⟩
    ·have h1:=of_decide_eq_false h1
     simp only[List.length_map]at h1
     rw[S_ (by omega)]at eg
     exact⟨m,rfl,zP,eg⟩
   ·rintro _ u ⟨m,rfl,zP,eg⟩
    rw[aB (by omega) (by omega)]
    by_cases bB:(qt:Int)+1<(m:Int)
    ·rw[if_pos bB]
     exact⟨qt+1,rfl,by omega,λh=>by omega⟩
    ·rw[if_neg bB]
     exact⟨m,rfl,by omega,eg⟩
theorem wE(fl:Fl)(l:List Test)(hl:l.length<=1000000):ax prog 153 [.list 6 fl (l.map Test.pv)] λp=>∃q:Bool,p=pB q/\(q=false->∀t∈l,oF t):=by
 refine ax.of (mc.c ?_)
 refine aj.each (n:=l.length) (by omega) (λk u=>∀t∈l.take k,oF t) (by simp) ?_ ?_
 ·intro k u next hk hg ar
  have yes:∃q:Bool,wk (pB true)=pB q/\(q=false->∀t∈l,oF t):=⟨true,rfl,λh=>by cases h⟩
  refine ae.t (by simpa using hk) ⟨by omega,_,aI hk,_,_,rfl,ae.mk (λ_=>yes) (λa1=>⟨by omega,_,aI hk,_,rfl,ae.mk (λ_=>yes) (λa2=>⟨by omega,_,aI hk,_,rfl,ae.mk (λ_=>yes) (λa3=>ar _ ?_)⟩)⟩)⟩
  have a1:=of_decide_eq_false a1
  have a2:=of_decide_eq_false a2
  have a3:=of_decide_eq_false a3
  simp only[List.length_map]at a1
  intro t ht
  rw[List.take_add_one,List.getElem?_eq_getElem hk,List.mem_append]at ht
  rcases ht with ht|ht
  ·exact hg t ht
  ·simp only[Option.toList_some,List.mem_singleton]at ht
   subst ht
   exact⟨by omega,by omega,by omega⟩
 ·intro u next hg
  rw[List.take_length]at hg
  exact ae.f (by simp) ⟨false,rfl,λ_=>hg⟩
theorem F_:∀(n:Nat) (fl:Fl) (l:List an),ao l<=n->ao l<=1000000->ax prog 105 [.list 7 fl (l.map an.pv)] λp=>∃q:Bool,p=pB q/\(q=false->dT l):=by
 intro n
 induction n with
 |zero=>
  intro fl l h _
  have:l=[]:=by
   cases l with
   |nil=>rfl
   |cons c l=>simp[ao,cT]at h
  subst this
  refine ax.of (gy.c ?_)
  exact aj.each (n:=0) (by omega) (λk u=>True) trivial (λk u next hk=>by omega) (λu next _=>ae.f (by simp) ⟨false,rfl,λ_=>trivial⟩)
 |succ n ih=>
  intro fl l h h6
  refine ax.of (gy.c ?_)
  have xu:=gk l
  refine aj.each (n:=l.length) (by omega) (λk u=>∀c∈l.take k,iq c) (by simp) ?_ ?_
  ·intro k u next hk hg ar
   have hm:=lJ (List.getElem_mem hk)
   have yes:∃q:Bool,wk (pB true)=pB q/\(q=false->dT l):=⟨true,rfl,λh=>by cases h⟩
   refine ae.t (by simpa using hk) ⟨by omega,_,aI hk,_,_,_,_,_,_,_,_,_,_,by rw[an.jf];rfl,ae.mk (λ_=>yes) (λa1=>ae.mk (λ_=>yes) (λa2=>ae.mk (λ_=>yes) (λa3=>?_)))⟩
   have a1:=of_decide_eq_false a1
   have a2:=of_decide_eq_false a2
   have a3:=of_decide_eq_false a3
   simp only[List.length_map]at a2 a3
   refine(wE .sh l[k].attr (by omega)).call ?_
   rintro _ ⟨q1,rfl,hq1⟩
   refine⟨_,rfl,ae.mk (λ_=>yes) (λb1=>(wE .sh l[k].value (by omega)).call ?_)⟩
   rintro _ ⟨q2,rfl,Wo⟩
   refine⟨_,rfl,ae.mk (λ_=>yes) (λb2=>(ih .sh l[k].conds (by omega) (by omega)).call ?_)⟩
   rintro _ ⟨q3,rfl,Zd⟩
   refine⟨_,rfl,ae.mk (λ_=>yes) (λb3=>ar _ ?_)⟩
   intro c hc
   rw[List.take_add_one,List.getElem?_eq_getElem hk,List.mem_append]at hc
   rcases hc with hc|hc
   ·exact hg c hc
   ·simp only[Option.toList_some,List.mem_singleton]at hc
    subst hc
    exact(im _).2 ⟨by omega,by omega,by omega,hq1 b1,Wo b2,Zd b3⟩
  ·intro u next hg
   rw[List.take_length]at hg
   exact ae.f (by simp) ⟨false,rfl,λ_=>mA.2 hg⟩
theorem Mh{α:Type}{l:List α}{k:Nat}(hk:k<l.length){a:α}:a∈l.take (k+1)↔a∈l.take k\/a=l[k]:=by
 rw[List.take_add_one,List.getElem?_eq_getElem hk,List.mem_append];simp
set_option maxRecDepth 100000
section
variable {w:World}
theorem On:prog.cellsOf 390=6:=by kernel_rfl
theorem JF:prog.cellsOf 266=1:=by kernel_rfl
theorem GR:prog.cellsOf 268=7:=by kernel_rfl
theorem JH:prog.cellsOf 50=1:=by kernel_rfl
theorem Yl(n:Nat)(cs:List Value)(h:Reads prog w n 390 cs):∃t:Test,aY (fj w) t.pv cs/\True:=by
 obtain⟨m,rfl,hl,hf⟩:=h.struct underlying390
 rw[On]at hl
 obtain⟨i0,e0,_⟩:=(bW hf 0 0 fF rfl rfl rfl).kV underlying3
 obtain⟨i1,e1,_⟩:=(bW hf 1 1 gB rfl rfl rfl).Cn underlying9
 obtain⟨s,e2,_⟩:=mV _ _ (bW hf 2 2 lG rfl rfl rfl)
 obtain⟨l,e3,_⟩:=OZ _ _ (bW hf 3 5 Oq rfl rfl rfl)
 match cs,hl with
 |[x0,x1,x2,x3,x4,x5],_=>exact⟨⟨_,_,s,l⟩,((e0.append e1).append e2).append e3,trivial⟩
theorem JT(n:Nat)(cs:List Value)(h:Reads prog w n 266 cs):∃l:List Test,aY (fj w) [.list 6 .sh (l.map Test.pv)] cs/\(∀s∈l,True)/\l.length<=maxLen:=
 h.lK underlying266 On (by omega) λm cs _ hr=>Yl m cs hr
theorem Yt:∀(n:Nat) (cs:List Value),Reads prog w n 268 cs->∃c:an,aY (fj w) c.pv cs/\True:=by
 intro n
 induction n using Nat.strongRecOn with
 |ind n ih=>
  intro cs h
  obtain⟨m,rfl,hl,hf⟩:=h.struct underlying268
  rw[GR]at hl
  obtain⟨i0,e0,_⟩:=(bW hf 0 0 fF rfl rfl rfl).kV underlying3
  obtain⟨i1,e1⟩:=(bW hf 1 1 uK rfl rfl rfl).pbool underlying4
  obtain⟨i2,e2,_⟩:=(bW hf 2 2 gB rfl rfl rfl).Cn underlying9
  obtain⟨a3,e3,_⟩:=JT _ _ (bW hf 3 3 JF rfl rfl rfl)
  obtain⟨a4,e4,_⟩:=JT _ _ (bW hf 4 4 JF rfl rfl rfl)
  obtain⟨i5,e5⟩:=(bW hf 5 5 uK rfl rfl rfl).pbool underlying4
  obtain⟨l,e6,_⟩:=(bW hf 6 6 JH rfl rfl rfl).lK (pv:=an.pv) (Q:=λ_=>True) underlying50 GR (by omega) λm' cN hm hr=>ih m' (by omega) cN hr
  match cs,hl with
  |[x0,x1,x2,x3,x4,x5,x6],_=>
   refine⟨.mk i0 i1 i2 a3 a4 i5 l,?_,trivial⟩
   rw[an.jf]
   exact(((((e0.append e1).append e2).append e3).append e4).append e5).append e6
theorem Tq(n:Nat)(cs:List Value)(h:Reads prog w n 50 cs):∃l:List an,aY (fj w) [.list 7 .sh (l.map an.pv)] cs/\(∀s∈l,True)/\l.length<=maxLen:=
 h.lK underlying50 GR (by omega) λm cs _ hr=>Yt m cs hr
end
section
variable {w:World}
theorem OB:prog.cellsOf 76=9:=by kernel_rfl
theorem Ov:prog.cellsOf 159=16:=by kernel_rfl
theorem Oz:prog.cellsOf 69=5:=by kernel_rfl
theorem XX:prog.cellsOf 31=13:=by kernel_rfl
theorem DZ:prog.cellsOf 29=6:=by kernel_rfl
theorem JG:prog.cellsOf 63=1:=by kernel_rfl
theorem Ox:prog.cellsOf 26=1:=by kernel_rfl
theorem Tc:prog.cellsOf 27=1:=by kernel_rfl
theorem OC:prog.cellsOf 22=1:=by kernel_rfl
theorem Ou:prog.cellsOf 23=1:=by kernel_rfl
theorem OA:prog.cellsOf 24=1:=by kernel_rfl
theorem Oy:prog.cellsOf 25=1:=by kernel_rfl
theorem JU(n:Nat)(cs:List Value)(h:Reads prog w n 63 cs):∃l:List Int,aY (fj w) [.list 1 .sh (l.map HW)] cs/\(∀s∈l,True)/\l.length<=maxLen:=
 h.lK (pv:=HW) (Q:=λ_=>True) underlying63 fF (by omega) λm' cN _ hr=>(hr.kV underlying3).imp λ_ h=>⟨h.1,trivial⟩
theorem Ys(n:Nat)(cs:List Value)(h:Reads prog w n 76 cs):∃g:Goal,aY (fj w) g.pv cs/\True:=by
 obtain⟨m,rfl,hl,hf⟩:=h.struct underlying76
 rw[OB]at hl
 obtain⟨a,e0,_⟩:=mV _ _ (bW hf 0 0 lG rfl rfl rfl)
 obtain⟨i1,e1,_⟩:=(bW hf 1 3 fF rfl rfl rfl).kV underlying3
 obtain⟨i2,e2,_⟩:=(bW hf 2 4 gB rfl rfl rfl).Cn underlying9
 obtain⟨l,e3,_⟩:=OZ _ _ (bW hf 3 5 Oq rfl rfl rfl)
 obtain⟨b,e4,_⟩:=mV _ _ (bW hf 4 6 lG rfl rfl rfl)
 match cs,hl with
 |[x0,x1,x2,x3,x4,x5,x6,x7,x8],_=>exact⟨⟨a,i1,i2,l,b⟩,(((e0.append e1).append e2).append e3).append e4,trivial⟩
theorem Yo(n:Nat)(cs:List Value)(h:Reads prog w n 159 cs):∃p:eC,aY (fj w) p.pv cs/\True:=by
 obtain⟨m,rfl,hl,hf⟩:=h.struct underlying159
 rw[Ov]at hl
 obtain⟨a,e0,_⟩:=mV _ _ (bW hf 0 0 lG rfl rfl rfl)
 obtain⟨b,e1,_⟩:=mV _ _ (bW hf 1 3 lG rfl rfl rfl)
 obtain⟨c,e2,_⟩:=mV _ _ (bW hf 2 6 lG rfl rfl rfl)
 obtain⟨d,e3,_⟩:=mV _ _ (bW hf 3 9 lG rfl rfl rfl)
 obtain⟨i4,e4,_⟩:=(bW hf 4 12 fF rfl rfl rfl).kV underlying3
 obtain⟨i5,e5⟩:=(bW hf 5 13 uK rfl rfl rfl).pbool underlying4
 obtain⟨i6,e6,_⟩:=(bW hf 6 14 fF rfl rfl rfl).kV underlying3
 obtain⟨i7,e7,_⟩:=(bW hf 7 15 fF rfl rfl rfl).kV underlying3
 match cs,hl with
 |[x0,x1,x2,x3,x4,x5,x6,x7,x8,x9,x10,x11,x12,x13,VQ,x15],_=>exact⟨⟨a,b,c,d,i4,i5,i6,i7⟩,((((((e0.append e1).append e2).append e3).append e4).append e5).append e6).append e7,trivial⟩
theorem Yr(n:Nat)(cs:List Value)(h:Reads prog w n 69 cs):∃i:ma,aY (fj w) i.pv cs/\True:=by
 obtain⟨m,rfl,hl,hf⟩:=h.struct underlying69
 rw[Oz]at hl
 obtain⟨i0,e0,_⟩:=(bW hf 0 0 fF rfl rfl rfl).kV underlying3
 obtain⟨i1,e1,_⟩:=(bW hf 1 1 fF rfl rfl rfl).kV underlying3
 obtain⟨i2,e2,_⟩:=(bW hf 2 2 gB rfl rfl rfl).Cn underlying9
 obtain⟨l,e3,_⟩:=JU _ _ (bW hf 3 3 JG rfl rfl rfl)
 obtain⟨i4,e4⟩:=(bW hf 4 4 uK rfl rfl rfl).pbool underlying4
 match cs,hl with
 |[x0,x1,x2,x3,x4],_=>exact⟨⟨i0,i1,i2,l,i4⟩,(((e0.append e1).append e2).append e3).append e4,trivial⟩
theorem Pa(n:Nat)(cs:List Value)(h:Reads prog w n 29 cs):∃c1 c2 c3 c4 c5 c6:Int,aY (fj w) [pI c1,pI c2,pI c3,pI c4,pI c5,pI c6] cs:=by
 obtain⟨m,rfl,hl,hf⟩:=h.struct underlying29
 rw[DZ]at hl
 obtain⟨i0,e0,_⟩:=(bW hf 0 0 fF rfl rfl rfl).kV underlying3
 obtain⟨i1,e1,_⟩:=(bW hf 1 1 fF rfl rfl rfl).kV underlying3
 obtain⟨i2,e2,_⟩:=(bW hf 2 2 fF rfl rfl rfl).kV underlying3
 obtain⟨i3,e3,_⟩:=(bW hf 3 3 fF rfl rfl rfl).kV underlying3
 obtain⟨i4,e4,_⟩:=(bW hf 4 4 fF rfl rfl rfl).kV underlying3
 obtain⟨i5,e5,_⟩:=(bW hf 5 5 fF rfl rfl rfl).kV underlying3
 match cs,hl with
 |[x0,x1,x2,x3,x4,x5],_=>exact⟨i0,i1,i2,i3,i4,i5,((((e0.append e1).append e2).append e3).append e4).append e5⟩
theorem Yk(n:Nat)(cs:List Value)(h:Reads prog w n 31 cs):∃v:a_,aY (fj w) v.pv cs/\True:=by
 obtain⟨m,rfl,hl,hf⟩:=h.struct underlying31
 rw[XX]at hl
 obtain⟨l0,e0,_⟩:=(bW hf 0 0 OC rfl rfl rfl).lK (pv:=av.pv) (Q:=λ_=>True) underlying22 GQ (by omega) λm' cN _ hr=>O_ m' cN hr
 obtain⟨l1,e1,_⟩:=(bW hf 1 1 Ou rfl rfl rfl).lK (pv:=eC.pv) (Q:=λ_=>True) underlying23 Ov (by omega) λm' cN _ hr=>Yo m' cN hr
 obtain⟨l2,e2,_⟩:=(bW hf 2 2 OA rfl rfl rfl).lK (pv:=Goal.pv) (Q:=λ_=>True) underlying24 OB (by omega) λm' cN _ hr=>Ys m' cN hr
 obtain⟨l3,e3,_⟩:=(bW hf 3 3 Oy rfl rfl rfl).lK (pv:=ma.pv) (Q:=λ_=>True) underlying25 Oz (by omega) λm' cN _ hr=>Yr m' cN hr
 obtain⟨l4,e4,_⟩:=(bW hf 4 4 Ox rfl rfl rfl).lK (pv:=Da) (Q:=λ_=>True) underlying26 JG (by omega) λm' cN _ hr=>(JU m' cN hr).imp λ_ h=>⟨h.1,trivial⟩
 obtain⟨l5,e5,_⟩:=(bW hf 5 5 Tc rfl rfl rfl).lK (pv:=OG) (Q:=λ_=>True) underlying27 gB (by omega) λm' cN _ hr=>(hr.Cn underlying9).imp λ_ h=>⟨h.1,trivial⟩
 obtain⟨i6,e6,_⟩:=(bW hf 6 6 fF rfl rfl rfl).kV underlying3
 obtain⟨c1,c2,c3,c4,c5,c6,e7⟩:=Pa _ _ (bW hf 7 7 DZ rfl rfl rfl)
 match cs,hl with
 |[x0,x1,x2,x3,x4,x5,x6,x7,x8,x9,x10,x11,x12],_=>exact⟨⟨l0,l1,l2,l3,l4,l5,i6,c1,c2,c3,c4,c5,c6⟩,((((((e0.append e1).append e2).append e3).append e4).append e5).append e6).append e7,trivial⟩
end
end Go.Proofs.YtbkejjmjopgpoaaGreat
namespace Go.az
open Go.RowKit
def holds(rel:Int)(a b:Sym):Bool:=
 bif rel == 1 then bE a b else bif rel == 2 then !bE a b else
 bif rel == 3 then(a.k == 2&&b.k == 2)&&decide (a.n<b.n)else bif rel == 4 then(a.k == 2&&b.k == 2)&&decide (a.n<=b.n)else
 bif rel == 5 then(a.k == 2&&b.k == 2)&&decide (a.n>b.n)else bif rel == 6 then(a.k == 2&&b.k == 2)&&decide (a.n>=b.n)else
 bif rel == 7 then a.k == b.k else false
def iN:List Bind->ByteArray->Option Sym
 |[],_=>none
 |b::l,v=>if aG b.v v=true then some b.s else iN l v
theorem wz(l r:List Bind)(v:ByteArray):iN (l++r) v=(iN l v).or (iN r v):=by
 induction l with
 |nil=>simp[iN]
 |cons b l ih=>simp only[List.cons_append,iN];split<;>simp[ih]
theorem vh{l:List Bind}{v:ByteArray}{k:Nat}(hk:k<l.length)(h:iN (l.take k) v=none):iN (l.take (k+1)) v=if aG l[k].v v=true then some l[k].s else none:=by
 rw[List.take_add_one,wz,h,Option.none_or,List.getElem?_eq_getElem hk]
 simp[iN]
theorem FC{l:List Bind}{v:ByteArray}{k:Nat}(hk:k<l.length)(h:iN (l.take k) v=none)(he:aG l[k].v v=true):iN l v=some l[k].s:=by
 have h1:=vh hk h
 rw[if_pos he]at h1
 have h2:=wz (l.take (k+1)) (l.drop (k+1)) v
 rw[List.take_append_drop,h1]at h2
 exact h2
def met(t:Test)(s:Sym)(l:List Bind):Option (List Bind):=
 if t.rel=8 then(if t.list.any (λx=>bE x s)=true then some l else none)
 else if t.rel<1\/t.rel>7 then none
 else if t.var=⟨#[]⟩then(if holds t.rel s t.sym=true then some l else none)
 else match iN l t.var with
  |some x=>if holds t.rel s x=true then some l else none
  |none=>if t.rel=1 then some (l++[⟨t.var,s⟩])else none
theorem tC{t:Test}{s:Sym}{l l':List Bind}(h:met t s l=some l'):l'.length<=l.length+1:=by
 unfold met at h
 (repeat' split at h)<;>cases h<;>simp
def gN:List Test->Sym->List Bind->Option (List Bind)
 |[],_,l=>some l
 |t::ts,s,l=>(met t s l).bind (gN ts s)
theorem wG(a b:List Test)(s:Sym)(l:List Bind):gN (a++b) s l=(gN a s l).bind (gN b s):=by
 induction a generalizing l with
 |nil=>rfl
 |cons t a ih=>
  simp only[List.cons_append,gN]
  cases met t s l with
  |none=>rfl
  |some l'=>exact ih l'
theorem qn{ts:List Test}{s:Sym}{l lk:List Bind}{k:Nat}(hk:k<ts.length)(h:gN (ts.take k) s l=some lk):gN (ts.take (k+1)) s l=met ts[k] s lk:=by
 rw[List.take_add_one,wG,h,List.getElem?_eq_getElem hk]
 simp only[Option.toList_some,Option.bind_some,gN]
 cases met ts[k] s lk<;>rfl
theorem vw{ts:List Test}{s:Sym}{l:List Bind}(k:Nat)(h:gN (ts.take k) s l=none):gN ts s l=none:=by
 have h2:=wG (ts.take k) (ts.drop k) s l
 rw[List.take_append_drop,h]at h2
 exact h2
theorem lZ{ts:List Test}{s:Sym}{l l':List Bind}(h:gN ts s l=some l'):l'.length<=l.length+ts.length:=by
 induction ts generalizing l with
 |nil=>simp only[gN,Option.some.injEq]at h;subst h;simp
 |cons t ts ih=>
  simp only[gN,Option.bind_eq_some_iff]at h
  obtain⟨l1,h1,h2⟩:=h
  have:=tC h1;have:=ih h2;simp only[List.length_cons];omega
@[reducible] def rU(v:ByteArray):Test:=⟨1,v,⟨0,⟨#[]⟩,0⟩,[]⟩
def dx(c:an)(e:av)(l:List Bind):Option (List Bind):=
 if(c.kind=1\/c.kind=2)/\(c.goal=true->e.goal=true)/\c.acc=e.acc then
  (met (rU c.id) e.id l).bind λl1=>(gN c.attr e.attr l1).bind λl2=>gN c.value e.value l2
 else none
theorem BB{c:an}{e:av}{l l':List Bind}(h:dx c e l=some l'):l'.length<=l.length+1+c.attr.length+c.value.length:=by
 unfold dx at h
 split at h
 ·simp only[Option.bind_eq_some_iff]at h
  obtain⟨l1,h1,l2,h2,h3⟩:=h
  have:=tC h1;have:=lZ h2;have:=lZ h3;omega
 ·cases h
def bf(c:an)(l:List Bind)(es:List av):List (av×List Bind):=es.filterMap λe=>(dx c e l).map λr=>(e,r)
theorem mj{c:an}{l:List Bind}{es:List av}{k:Nat}(hk:k<es.length):
  bf c l (es.take (k+1))=bf c l (es.take k)++((dx c es[k] l).map λr=>(es[k],r)).toList:=by
 unfold bf
 rw[List.take_add_one,List.getElem?_eq_getElem hk,List.filterMap_append]
 congr 1
theorem kB{c:an}{l:List Bind}{es:List av}(k:Nat):bf c l es=bf c l (es.take k)++bf c l (es.drop k):=by
 unfold bf
 rw[<- List.filterMap_append,List.take_append_drop]
theorem OL{c:an}{l:List Bind}{es:List av}{k:Nat}(hk:k<es.length){r:List Bind}(h:dx c es[k] l=some r):
  ∃hj:(bf c l (es.take k)).length<(bf c l es).length,(bf c l es)[(bf c l (es.take k)).length]'hj=(es[k],r):=by
 have e:=kB (c:=c) (l:=l) (es:=es) (k+1)
 rw[mj hk,h]at e
 simp only[Option.map_some,Option.toList_some,List.append_assoc,List.cons_append,List.nil_append]at e
 have hlen:(bf c l (es.take k)).length<(bf c l es).length:=by rw[e];simp
 refine⟨hlen,?_⟩
 have:(bf c l es)[(bf c l (es.take k)).length]?=some (es[k],r):=by
  rw[e,List.getElem?_append_right (Nat.le_refl _)];simp
 rw[List.getElem?_eq_getElem hlen]at this
 exact Option.some.inj this
end Go.az
namespace Go.Proofs.YtbkejjmjopgpoaaGreat
open Go.Proofs.Tryz Go.az Go.RowKit
namespace K6
theorem Rs(a b:ByteArray):Pure prog 549 [pS a,pS b] (pI (bN a b)):=by
 refine ax.of (pf.c ?_)
 refine ae.mk (λh=>?_) (λh=>ae.mk (λh1=>?_) (λh1=>?_))
 ·simp[bN,h,wk,cu]
 ·simp only[bN,h,wk,cu];simp only[h]at h1;rw[h1];rfl
 ·simp only[bN,h,wk,cu];simp only[h]at h1;rw[h1];rfl
def c_(L:List ByteArray):Lq:=L.map λs=>[pS s]
theorem bZ(L:List ByteArray):∀r∈c_ L,r.length=1:=λr hr=>by
 obtain⟨s,_,rfl⟩:=List.mem_map.1 hr;rfl
theorem ig(L:List ByteArray):aE (c_ L).flatten=true:=by
 unfold aE c_
 rw[List.all_eq_true]
 intro x hx
 obtain⟨r,hr,hx⟩:=List.mem_flatten.1 hx
 obtain⟨s,_,rfl⟩:=List.mem_map.1 hr
 simp only[List.mem_singleton]at hx
 subst hx;rfl
@[simp] theorem dc(L:List ByteArray):(c_ L).length=L.length:=by simp[c_]
theorem OW{L:List ByteArray}{i:Nat}(h:i<L.length):(c_ L)[Int.toNat (i:Int)]?=some [pS L[i]]:=by
 rw[Int.toNat_natCast,c_,List.getElem?_map,List.getElem?_eq_getElem h];rfl
abbrev sT:TypeId:=398
abbrev tyName:TypeId:=273
abbrev zF(μ:Mem)(b:Nat)(L:List ByteArray)(F:List Nat):Prop:=gv sT tyName 1 μ b (c_ L) F
theorem IK(b:Nat)(s:Bool)(L:List ByteArray)(hu:Up bN L)(hl:L.length<=1000000)(x:ByteArray):ab prog 301 [pP b 0,pS x] (M0.set b (some (.ro sT [.list 1 .sh (c_ L),pB s]))) λp _=>∃(k:Nat) (t:Bool),p=.aC [pI k,pB t]/\bx bN L x k t:=by
 refine jz.c ?_
 refine⟨_,_,xW (Mem.ai _ _ _) (by simp),?_⟩
 have eF:∀u,u=M0.set b (some (.ro sT [.list 1 .sh (c_ L),pB s]))->aN u b 0 1=some [.list 1 .sh (c_ L)]:=λu h=>by rw[h];exact xW (Mem.ai _ _ _) (by simp)
 rw[dc]
 refine aj.bin (n:=L.length) (by omega) (λi=>if h:i<L.length then bN L[i] x else 1) (λu=>u=M0.set b (some (.ro sT [.list 1 .sh (c_ L),pB s]))) rfl ?_ ?_ ?_ ?_
 ·intro i j Ah hj h
  rw[dif_pos hj]at h
  rw[dif_pos (Nat.lt_trans Ah hj)]
  exact hu.We dJ Ah hj h
 ·intro i j Ah hj h
  rw[dif_pos (Nat.lt_trans Ah hj)]at h
  rw[dif_pos hj]
  exact hu.Wc dJ Ah hj h
 ·intro lo hi nq u next bB Zq Qp Mz hA h1 h2 h3
  subst hA
  rw[dif_pos Mz]at h1 h2 h3
  refine ae.t (by simpa using bB) ⟨by decide,?_⟩
  refine⟨_,_,eF _ rfl,?_⟩
  dsimp only
  rw[YM bB (by omega),<- Qp]
  refine⟨by omega,_,OW Mz,_,rfl,λv=>by kernel_rfl,(Rs L[nq] x).call ⟨_,rfl,ae.mk (λh=>?_) (λh=>ae.mk (λh'=>?_) (λh'=>?_))⟩⟩
  ·have h0:bN L[nq] x=0:=by simpa using h
   refine⟨nq,true,rfl,Nat.le_of_lt Mz,λi hi oO=>?_,λ_=>⟨Mz,(lW).1 h0⟩,λh=>by cases h⟩
   have:=h3 h0 i oO
   rw[dif_pos hi]at this;exact this
  ·have h0:bN L[nq] x<0:=by simpa using h'
   have:=h1 h0 _ rfl
   rw[aB (by omega) (by omega)]
   exact this
  ·have h0:0<bN L[nq] x:=by
    have a1:bN L[nq] x≠0:=by simpa using h
    have a2:¬bN L[nq] x<0:=by simpa using h'
    omega
   exact h2 h0 _ rfl
 ·intro k u next hA hk h1 h2
  refine ae.f (by simp) ?_
  refine⟨k,false,rfl,hk,λi hi oO=>?_,λh=>(by cases h),λ_ i hi oO=>?_⟩
  ·have:=h1 i oO;rw[dif_pos hi]at this;exact this
  ·have:=h2 i oO hi;rw[dif_pos hi]at this;exact this
theorem W_{μ:Mem}{b:Nat}{L:List ByteArray}{F:List Nat}(h:zF μ b L F)(hu:Up bN L)(hl:L.length<=1000000)(x:ByteArray){K:Kq}(hk:∀(k:Nat) (t:Bool),bx bN L x k t->K (.aC [pI k,pB t]) μ):ab prog 301 [pP b 0,pS x] μ K:=
 gv.query h (λs=>IK b s L hu hl x) (λp ⟨k,t,e,_⟩=>by rw[e];rfl) λp ⟨k,t,e,hf⟩=>by rw[e];exact hk k t hf
theorem gL{μ:Mem}{b:Nat}{L:List ByteArray}{F:List Nat}(h:zF μ b L F)(hu:Up bN L)(hl:L.length<=1000000)(x:ByteArray){K:Kq}(hk:∀(k:Nat) (t:Bool),bx bN L x k t->K (.aC [pI k,pB t]) μ):ab prog 306 [pP b 0,pS x] μ K:=by
 refine i_.c ?_
 exact ae.f rfl (W_ h hu hl x λk t hf=>⟨_,_,rfl,hk k t hf⟩)
theorem IF{μ:Mem}{b:Nat}{L:List ByteArray}{F:List Nat}(h:zF μ b L F)(hl:L.length<=1000000){K:Kq}(hk:∀μ' F',ri sT tyName 1 μ' b (c_ L) F'->Mv μ μ' F F'->K (.aC []) μ'):ab prog 302 [pP b 0] μ K:=by
 obtain⟨μ0,hG,ND,Qq⟩:=h.raw
 refine ab.pre hG (kl.c ?_)
 rcases Qq with⟨rfl,hm⟩|hr
 ·refine⟨true,bM hm (by simp),ae.t rfl ?_⟩
  refine⟨_,_,bM hm (by simp),?_⟩
  refine⟨_,_,bM hm (by simp),?_⟩
  rw[dc,aB (by omega) (by omega)]
  refine⟨by omega,by omega,by omega,by omega,λIY Ii=>?_⟩
  have bm:IY≠b:=by rintro rfl;rw[hm]at Ii;cases Ii
  have hn:Int.toNat ((L.length:Int)+1)=L.length+1:=by omega
  rw[hn]
  refine Gi (Mem.ai _ _ _) (by simp) (by simp) (bZ L) (ig L) (by simp;omega) (by simp;omega) ?_
  rw[Mem.set_set]
  refine⟨_,_,by rw[Mem.aw _ _ (Ne.symm bm)];exact hm,by simp,?_⟩
  refine⟨_,_,Mem.ai _ _ _,by simp[ei],?_⟩
  rw[Mem.set_set]
  refine hk _ [b,IY] (.inr ⟨IY,L.length+1,_,rfl,bm,by rw[Mem.ai];rfl,by rw[Mem.aw _ _ bm,Mem.ai],by simp,by simp⟩) (ND.trans ?_)
  exact((Mv.set (F:=[b]) (.inr Ii)).trans (Mv.set (.inl (by simp)))).sub (by simp)
 ·obtain⟨a,c,hm,_⟩:=hr.app (bZ L)
  exact⟨false,bM hm (by simp),ae.f rfl (hk μ0 F hr ND)⟩
theorem oL(L:List ByteArray)(j:Nat)(y:ByteArray):(L.take j++y::L.drop j).length=L.length+1:=by
 rw[List.length_append,List.length_cons,List.length_take,List.length_drop];omega
theorem Ug(L:List ByteArray)(j:Nat)(y:ByteArray)(h0:0<j)(hj:j<=L.length):(c_ (L.take j++y::L.drop j)).set j [pS (L[j-1]'(by omega))]=c_ (L.take (j-1)++(L[j-1]'(by omega))::L.drop (j-1)):=by
 have e:L.drop (j-1)=L[j-1]'(by omega)::L.drop j:=by
  rw[List.drop_eq_getElem_cons (by omega)];congr 2;omega
 have e2:L.take j=L.take (j-1)++[L[j-1]'(by omega)]:=by
  have:=List.take_add_one (l:=L) (i:=j-1)
  rw[show j-1+1=j by omega,List.getElem?_eq_getElem (by omega)]at this
  exact this
 have hlen:(L.take j).length=j:=by rw[List.length_take];omega
 unfold c_
 rw[List.map_append,List.map_cons,List.set_append_right _ _ (by simp;omega)]
 simp only[List.length_map,hlen,Nat.sub_self,List.set_cons_zero]
 rw[e2,e,List.map_append,List.append_assoc,List.map_append]
 rfl
theorem YW(L:List ByteArray)(j:Nat)(x y:ByteArray)(hj:j<=L.length):(c_ (L.take j++y::L.drop j)).set j [pS x]=c_ (L.take j++x::L.drop j):=by
 have hlen:(L.take j).length=j:=by rw[List.length_take];omega
 unfold c_
 rw[List.map_append,List.map_cons,List.set_append_right _ _ (by simp;omega)]
 simp only[List.length_map,hlen,Nat.sub_self,List.set_cons_zero]
 rw[List.map_append,List.map_cons]
theorem adx(L:List ByteArray)(j:Nat)(y:ByteArray)(h0:0<j)(hj:j<=L.length):(c_ (L.take j++y::L.drop j))[j-1]?=some [pS (L[j-1]'(by omega))]:=by
 unfold c_
 rw[List.getElem?_map,List.getElem?_append_left (by rw[List.length_take];omega),List.getElem?_take,if_pos (by omega),List.getElem?_eq_getElem (by omega)]
 rfl
theorem f_{μ:Mem}{b:Nat}{L:List ByteArray}{F:List Nat}(h:zF μ b L F)(hu:Up bN L)(hl:L.length<=999999)(x:ByteArray){K:Kq}
  (hk:∀μ' L' F' (t:Bool),(t=true↔x∉L)->zF μ' b L' F'->Up bN L'->(∀y,y∈L'↔y=x\/y∈L)->L'.length<=L.length+t.toNat->Mv μ μ' F F'->K (pB t) μ'):ab prog 214 [pP b 0,pS x] μ K:=by
 refine km.c ?_
 refine ae.f rfl (W_ h hu (by omega) x λk t hf=>⟨_,_,rfl,ae.mk (λht=>?_) (λht=>?_)⟩)
 ·have hx:x∈L:=(hf.mem dJ).1 ht
  exact hk μ L F false ⟨λh=>(by cases h),λh=>absurd hx h⟩ h hu (λy=>⟨λh=>.inr h,λh=>h.elim (λe=>e▸hx) id⟩) (by simp) (Mv.refl _ _)
 ·subst ht
  have hx:x∉L:=λhx=>by have:=(hf.mem dJ).2 hx;cases this
  refine IF h (by omega) λμ1 F1 hr qv=>⟨rfl,?_⟩
  obtain⟨a,c,hb,jQ⟩:=hr.app (bZ L)
  refine⟨_,_,_,bM hb (by simp),?_⟩
  simp only[dc]at jQ
  rw[dc]
  refine jQ [pS x] 16 _ rfl rfl (by omega) (by omega) λb' c' rest μ2 bm e2 jO kK jN lS=>?_
  refine⟨_,_,e2.trans hb,by simp,?_⟩
  refine⟨_,_,_,bM (Mem.ai _ _ _) (by simp[ei]),?_⟩
  have NC:IntKind.wrap .i64 (((L.length+1:Nat):Int)-1)=(L.length:Int):=by rw[aB (by omega) (by omega)];omega
  rw[NC]
  have DI:ei [.raw (.slice a L.length c),pB false] 0 [PV.raw (.slice (some ⟨b',0,none⟩) (L.length+1) c')]=[.raw (.slice (some ⟨b',0,none⟩) (L.length+1) c'),pB false]:=rfl
  refine aj.down hf.le (by omega) (λj u=>∃y,u b=some (.cells sT [.raw (.slice (some ⟨b',0,none⟩) (L.length+1) c'),pB false])/\u b'=some (.cells tyName ((c_ (L.take j++y::L.drop j)).flatten++rest))/\Mv μ2 u [b,b'] [b,b']) ⟨x,?_,?_,?_⟩ ?_ ?_
  ·rw[Mem.ai];rfl
  ·rw[Mem.aw _ _ bm,jO,List.take_length,List.drop_length]
   simp[c_]
  ·exact(Mv.set (.inl (by simp))).sub (by simp)
  ·rintro j u next Zm Zo ⟨y,i1,i2,i3⟩ ar
   refine ae.t (by simpa using Zm) ?_
   refine⟨_,_,_,bM i1 (by simp),?_⟩
   refine⟨_,_,_,bM i1 (by simp),?_⟩
   have Fp:IntKind.wrap .i64 ((j:Int)-1)=((j-1:Nat):Int):=by rw[aB (by omega) (by omega)];omega
   refine⟨by rw[Fp];omega,by rw[Fp];omega,L[j-1]'(by omega),?_,?_⟩
   ·rw[Fp,Int.toNat_natCast,Nat.zero_add]
    exact Ep (bZ _) i2 (adx L j y (by omega) Zo)
   ·refine⟨by omega,by omega,_,_,i2,?_,ar _ ⟨L[j-1]'(by omega),?_,?_,?_⟩⟩
    ·have iB:=dw (bZ (L.take j++y::L.drop j))
     rw[dc,oL]at iB
     rw[List.length_append,iB,Int.toNat_natCast,List.length_singleton];omega
    ·rw[Mem.aw _ _ (Ne.symm bm)];exact i1
    ·rw[Mem.ai,Int.toNat_natCast,Nat.zero_add,AG (bZ _) (by rw[dc,oL];omega) rfl,Ug L j y (by omega) Zo]
    ·exact(i3.trans (Mv.set (.inl (by simp)))).sub (by simp)
  ·rintro u next ⟨y,i1,i2,i3⟩
   refine ae.f (by simp) ?_
   refine⟨_,_,_,bM i1 (by simp),?_⟩
   have hle:=hf.le
   refine⟨by omega,by omega,_,_,i2,?_,?_⟩
   ·have iB:=dw (bZ (L.take k++y::L.drop k))
    rw[dc,oL]at iB
    rw[List.length_append,iB,Int.toNat_natCast,List.length_singleton];omega
   ·rw[Int.toNat_natCast,Nat.zero_add,AG (bZ _) (by rw[dc,oL];omega) rfl,YW L k x y hf.le]
    refine hk (u.set b' (some (.cells tyName ((c_ (L.take k++x::L.drop k)).flatten++rest)))) (L.take k++x::L.drop k) [b,b'] true ⟨λ_=>hx,λ_=>rfl⟩ ⟨bZ _,ig _,.inr (.inr (.inr ⟨b',c',rest,rfl,bm,?_,Mem.ai _ _ _,?_,?_⟩))⟩ (hf.put dJ hu) (λy=>bx.YN) (by rw[oL];simp) ?_
    ·rw[Mem.aw _ _ (Ne.symm bm),i1,dc,oL]
    ·rw[dc,oL];exact kK
    ·rw[dc,oL];exact jN
    ·exact qv.trans (lS.trans ((i3.trans (Mv.set (.inl (by simp)))).sub (by simp)))
theorem aaH{μ:Mem}{b:Nat}{L:List ByteArray}{F:List Nat}(h:zF μ b L F){K:Kq}(hk:∀μ' b',(b'∈F\/μ b'=none)->b'≠b->zF μ' b L [b]->zF μ' b' L [b']->Mv μ μ' F [b',b]->K (pP b' 0) μ'):ab prog 303 [pP b 0] μ K:=by
 obtain⟨μ0,s,hG,hm,ND⟩:=h.list
 refine ab.pre hG (ja.c ?_)
 refine ae.f rfl ?_
 refine⟨_,_,hm,by simp,?_⟩
 refine⟨_,_,bM (Mem.ai _ _ _) (by simp[ei]),λb' jO=>?_⟩
 have bm:b'≠b:=by rintro rfl;rw[Mem.ai]at jO;cases jO
 have hb0:=jO
 rw[Mem.aw _ _ bm]at hb0
 have lS:Mv μ (((μ0.set b (some (.cells sT (ei [.list 1 .sh (c_ L),pB s] (0+1) [pB true])))).set b' (some (.cells sT [.list 1 .sh (c_ L),pB true])))) F [b',b]:=(ND.trans ((Mv.set (.inl (by simp))).trans (Mv.set (.inr jO)))).sub (by simp)
 refine hk _ b' (lS.grow b' (by simp)) bm ⟨bZ L,ig L,.inl ⟨rfl,?_⟩⟩ ⟨bZ L,ig L,.inl ⟨rfl,Mem.ai _ _ _⟩⟩ lS
 rw[Mem.aw _ _ (Ne.symm bm),Mem.ai];rfl
theorem gX{μ:Mem}(fl:Fl){K:Kq}(hk:∀μ' b,μ b=none->zF μ' b [] [b]->Mv μ μ' [] [b]->K (pP b 0) μ'):ab prog 155 [.list 1 fl []] μ K:=by
 refine mO.c ?_
 intro b hb
 refine aj.each (n:=0) (by omega) (λ_ u=>u=μ.set b (some (.cells sT [.list 1 .nil [],pB false]))) rfl (λk u next eQ=>by omega) ?_
 rintro u next rfl
 refine ae.f (by simp) (hk _ b hb ⟨bZ [],ig [],.inr (.inl ⟨rfl,rfl,Mem.ai _ _ _⟩)⟩ ((Mv.set (.inr hb)).sub (by simp)))
end K6
@[reducible] def p8(c:UInt8):PV:=.raw (.int .u8 ((c.toNat:Nat):Int))
def rC(c:UInt8):Bool:=decide ((c.toNat:Int)>=97)&&decide ((c.toNat:Int)<=122)
def Iz(c:UInt8):Bool:=decide ((c.toNat:Int)>=48)&&decide ((c.toNat:Int)<=57)
def Im(c:UInt8):Bool:=decide ((c.toNat:Int)>=65)&&decide ((c.toNat:Int)<=90)
def oo(c:UInt8):Bool:=rC c||(Iz c||(((c.toNat:Int) == 45)||((c.toNat:Int) == 95)))
def DR(l:List UInt8):Bool:=decide (1<=l.length)&&(decide (l.length<=32)&&((match l with|c::_=>rC c|[]=>false)&&l.all oo))
def ku(t:ByteArray):Bool:=DR (bL t)
def nL(s:Sym):Bool:=
 bif s.k == 1 then(match bL s.t with|[c]=>Im c&&(decide (s.n>=1)&&decide (s.n<=1048576))|_=>false)else
 bif s.k == 2 then aG s.t ⟨#[]⟩&&(decide (s.n>= -2147483647)&&decide (s.n<=2147483647))else
 bif s.k == 3 then(s.n == 0)&&ku s.t else false
theorem Rn(c:UInt8):Pure prog 294 [p8 c] (pB (rC c)):=by
 refine ax.of (Gr.c ?_)
 refine ae.mk (λh=>?_) (λh=>?_)<;>simp_all [rC,wk,cu]<;>omega
theorem aaE(c:UInt8):Pure prog 295 [p8 c] (pB (Iz c)):=by
 refine ax.of (Gt.c ?_)
 refine ae.mk (λh=>?_) (λh=>?_)<;>simp_all [Iz,wk,cu]<;>omega
theorem aaA(c:UInt8):Pure prog 240 [p8 c] (pB (Im c)):=by
 refine ax.of (Gs.c ?_)
 refine ae.mk (λh=>?_) (λh=>?_)<;>simp_all [Im,wk,cu]<;>omega
theorem GJ{c:UInt8}{l:List UInt8}(h1:(c::l).length<=32)(h2:rC c=true):DR (c::l)=l.all oo:=by
 simp only[DR,List.length_cons]at*
 have hp:oo c=true:=by simp[oo,h2]
 simp[h2,hp];omega
theorem BE(t:ByteArray):Pure prog 208 [pS t] (pB (ku t)):=by
 refine ax.of (Jq.c ?_)
 have hlen:=IX t
 unfold ku
 generalize hL:bL t=L at hlen
 refine ae.mk (λh=>?_) (λh=>ae.mk (λh2=>?_) (λh2=>?_))
 ·have:L=[]:=List.eq_nil_of_length_eq_zero (by simp at h;omega)
  subst this;rfl
 ·have:¬L.length<=32:=by simp at h2;omega
  simp[DR,this,wk,cu]
 ·have h1:1<=t.size:=by simp at h;omega
  have h3:L.length<=32:=by simp at h2;omega
  have nG:∀k (hk:k<L.length),t[Int.toNat (k:Int)]?=some L[k]:=λk hk=>by subst hL;exact RL (by omega)
  obtain⟨c,l,rfl⟩:∃c l,L=c::l:=by
   cases L with
   |nil=>simp at hlen;omega
   |cons c l=>exact⟨c,l,rfl⟩
  refine⟨by omega,c,nG 0 (by simp),(Rn c).call ⟨_,rfl,ae.mk (λh4=>?_) (λh4=>?_)⟩⟩
  ·have h4:rC c=false:=by simpa using h4
   simp[DR,h4,wk,cu]
  ·have h4:rC c=true:=by simpa using h4
   rw[GJ h3 h4]
   refine aj.from (s:=1) (n:=t.size) h1 (by omega) (λk u=>(l.take (k-1)).all oo=true) (by simp) ?_ ?_
   ·intro k u next bP hk hg ar
    have eQ:k<(c::l).length:=by omega
    have Su:k-1<l.length:=by simp at eQ;omega
    have hck:(c::l)[k]=l[k-1]:=by
     cases k with
     |zero=>omega
     |succ k=>simp
    have hx:=nG k eQ
    rw[hck]at hx
    have go:oo l[k-1]=true->∀u',next (IntKind.wrap .i64 ((k:Int)+1)) u':=λhp u'=>ar u' (by
     have:k+1-1=k-1+1:=by omega
     rw[this,Lb Su hg];exact hp)
    have stop:oo l[k-1]=false->wk (pB false)=pB (l.all oo):=λhp=>by rw[Lc Su hp];rfl
    refine ae.t (by simpa using hk) ⟨by omega,_,hx,(Rn _).call ⟨_,rfl,ae.mk (λa1=>?_) (λa1=>go ?_ _)⟩⟩
    ·refine⟨by omega,_,hx,(aaE _).call ⟨_,rfl,ae.mk (λa2=>?_) (λa2=>go ?_ _)⟩⟩
     ·refine⟨by omega,_,hx,ae.mk (λa3=>⟨by omega,_,hx,ae.mk (λa4=>stop ?_) (λa4=>go ?_ _)⟩) (λa3=>go ?_ _)⟩<;>simp_all [oo]
     ·simp_all [oo]
    ·simp_all [oo]
   ·intro u next hg
    refine ae.f (by simp) ?_
    have:t.size-1=l.length:=by simp at hlen;omega
    rw[this,List.take_length]at hg
    rw[hg];rfl
theorem JZ{t:ByteArray}:((((t.size:Nat):Int) == 1)=true↔∃c,bL t=[c]):=by
 have hlen:=IX t
 constructor
 ·intro h
  have h1:(bL t).length=1:=by simp at h;omega
  exact List.length_eq_one_iff.1 h1
 ·rintro⟨c,hc⟩
  rw[hc]at hlen
  simp at hlen |-;omega
theorem Z_(s:Sym):Pure prog 237 [.agg s.pv] (pB (nL s)):=by
 refine ax.of (Gu.c ?_)
 refine ae.mk (λh=>?_) (λh=>ae.mk (λh2=>?_) (λh2=>ae.mk (λh3=>?_) (λh3=>?_)))
 ·refine ae.mk (λa=>?_) (λa=>?_)
  ·obtain⟨c,hc⟩:=JZ.1 a
   have nG:s.t[Int.toNat 0]?=some c:=by
    have:=RL (t:=s.t) (k:=0) (by have:=IX s.t;rw[hc]at this;simp at this;omega)
    simpa[hc]using this
   refine⟨by omega,c,nG,(aaA c).call ⟨_,rfl,ae.mk (λb=>ae.mk (λd=>?_) (λd=>?_)) (λb=>?_)⟩⟩<;>simp_all [nL,wk,cu]<;>omega
  ·have:∀c,bL s.t≠[c]:=λc hc=>by rw[JZ.2 ⟨c,hc⟩]at a;cases a
   have hv:nL s=false:=by
    simp only[nL,h,cond_true]
    all_goals (split<;>first|rfl|(rename_i c hc;exact absurd hc (this c)))
   rw[hv];rfl
 ·refine ae.mk (λa=>ae.mk (λb=>?_) (λb=>?_)) (λa=>?_)<;>simp_all [nL,wk,cu]<;>omega
 ·refine ae.mk (λa=>(BE s.t).call ⟨_,rfl,?_⟩) (λa=>?_)<;>simp_all [nL,wk,cu]<;>omega
 ·simp_all [nL,wk,cu]
def vo(s:Sym):Bool:=(s.k != 1)&&nL s
def Bf(s:Sym):Bool:=(s.k == 0)&&(aG s.t ⟨#[]⟩&&((s.n == 0)&&true))
def C_(a:Atom):Bool:=aG a.var ⟨#[]⟩&&Bf a.sym
def tY(a:Atom):Bool:=bif aG a.var ⟨#[]⟩then vo a.sym else ku a.var&&Bf a.sym
def gf(t:Test):Bool:=
 bif t.rel == 8 then aG t.var ⟨#[]⟩&&(Bf t.sym&&(decide (1<=t.list.length)&&(decide (t.list.length<=8)&&t.list.all vo)))
 else decide (1<=t.rel)&&(decide (t.rel<=7)&&(decide (t.list.length=0)&&tY ⟨t.var,t.sym⟩))
def Jz(a:Atom):Bool:=aG a.var ⟨#[]⟩&&(a.sym.k == 3)
def DY(t:Term):Bool:=decide (0<=t.op)&&(decide (t.op<=3)&&(tY t.a&&(bif t.op == 0 then C_ t.b else tY t.b&&(!Jz t.a&& !Jz t.b))))
def Hn(k:Int):Bool:=(k == 8)||((k == 9)||(k == 10))
def tZ(a:kt):Bool:=ku a.id&&(tY a.attr&&(DY a.value&&(decide (1<=a.Cr)&&(decide (a.Cr<=10)&&(bif Hn a.Cr then tY a.other else C_ a.other)))))
def bU(c:an)(deep:Int):Int:=
 bif c.kind == 3 then
  (bif c.goal||(!aG c.id ⟨#[]⟩||(decide (0<c.attr.length)||(decide (0<c.value.length)||(c.acc||decide (c.conds.length=0)))))then 9 else bif decide (3<=deep)then 8 else 0)
 else bif (c.kind == 1)||(c.kind == 2)then
  (bif decide (0<c.conds.length)||(!ku c.id||decide (c.attr.length=0))then 9 else
   bif decide (4<c.attr.length)||decide (4<c.value.length)then 7 else
   bif !(c.attr.all gf)|| !(c.value.all gf)then 9 else 0)
 else 9
def dj:List (Nat×Nat×an)->Option (Nat×Int)
 |[]=>none
 |(a,d,c)::l=>bif bU c d == 0 then dj l else some (a,bU c d)
theorem re(a b:List (Nat×Nat×an)):dj (a++b)=(dj a).or (dj b):=by
 induction a with
 |nil=>rfl
 |cons x a ih=>
  obtain⟨p,d,c⟩:=x
  simp only[List.cons_append,dj]
  cases bU c d == 0
  ·rfl
  ·exact ih
def fZ:Nat->List kt->Option Nat
 |_,[]=>none
 |i,a::l=>bif tZ a then fZ (i+1) l else some i
theorem FK{l:List kt}{k i:Nat}(hk:k<l.length)(h:fZ i (l.take k)=none):fZ i (l.take (k+1))=(bif tZ l[k]then none else some (i+k)):=by
 induction l generalizing k i with
 |nil=>simp at hk
 |cons a l ih=>
  cases k with
  |zero=>simp[fZ]
  |succ k=>
   simp only[List.take_succ_cons,fZ,List.getElem_cons_succ]at h |-
   cases ha:tZ a with
   |false=>rw[ha]at h;cases h
   |true=>
    rw[ha]at h
    simp only[cond_true]at h |-
    rw[ih (by simpa using hk) h]
    congr 2;omega
theorem Is{l:List kt}{k i:Nat}(hk:k<l.length)(h:fZ i (l.take k)=none)(ha:tZ l[k]=false):fZ i l=some (i+k):=by
 induction l generalizing k i with
 |nil=>simp at hk
 |cons a l ih=>
  cases k with
  |zero=>simp only[List.getElem_cons_zero]at ha;simp[fZ,ha]
  |succ k=>
   simp only[List.take_succ_cons,fZ,List.getElem_cons_succ]at h ha |-
   cases hb:tZ a with
   |false=>rw[hb]at h;cases h
   |true=>
    rw[hb]at h
    simp only[cond_true]at h |-
    rw[ih (by simpa using hk) h ha]
    congr 1;omega
def kT(p:Prod):Int×Int:=
 match dj (dR p.conds 0 0)with
 |some (a,e)=>(a,e)
 |none=>match fZ 0 p.dW with
  |some i=>(((ao p.conds+i:Nat):Int),9)
  |none=>(-1,0)
def dz(p:Prod):Int×Int:=
 bif !ku p.name then(-1,2)else
 bif decide (ao p.conds<1)||(decide (16<ao p.conds)||(decide (p.dW.length<1)||decide (16<p.dW.length)))then(-1,7)else kT p
theorem OM{p:Prod}{a:Nat}{e:Int}(h:dj (dR p.conds 0 0)=some (a,e)):kT p=((a:Int),e):=by simp only[kT,h]
theorem ON{p:Prod}{i:Nat}(h:dj (dR p.conds 0 0)=none)(h2:fZ 0 p.dW=some i):kT p=(((ao p.conds+i:Nat):Int),9):=by simp only[kT,h,h2]
theorem LG{p:Prod}(h:dj (dR p.conds 0 0)=none)(h2:fZ 0 p.dW=none):kT p=(-1,0):=by simp only[kT,h,h2]
theorem Bx{l:List (Nat×Nat×an)}{a:Nat}{e:Int}(h:dj l=some (a,e)):e≠0:=by
 induction l with
 |nil=>cases h
 |cons x l ih=>
  obtain⟨p,d,c⟩:=x
  simp only[dj]at h
  cases hc:bU c d == 0 with
  |true=>rw[hc]at h;exact ih h
  |false=>
   rw[hc]at h
   simp only[cond_false,Option.some.injEq,Prod.mk.injEq]at h
   rw[<- h.2];simpa using hc
theorem FI{l:List (Nat×Nat×an)}{k:Nat}{x:Nat×Nat×an}(hx:l[k]?=some x)(h:dj (l.take k)=none):dj (l.take (k+1))=(bif bU x.2.2 x.2.1 == 0 then none else some (x.1,bU x.2.2 x.2.1)):=by
 rw[List.take_add_one,re,h,hx]
 obtain⟨a,d,c⟩:=x
 simp[dj]
theorem FJ{l:List (Nat×Nat×an)}{k:Nat}{r:Nat×Int}(h:dj (l.take k)=some r):dj l=some r:=by
 have:=re (l.take k) (l.drop k)
 rw[List.take_append_drop,h]at this
 exact this
theorem KQ(s:Sym):Pure prog 372 [.agg s.pv] (pB (Bf s)):=ax.of (Dw.c rfl)
theorem RB(a:Atom):Pure prog 300 [.agg a.pv] (pB (C_ a)):=by
 refine ax.of (AD.c ?_)
 refine ae.mk (λh=>(KQ a.sym).call ⟨_,rfl,?_⟩) (λh=>?_)<;>simp_all [C_,wk,cu]
theorem IL(s:Sym):Pure prog 373 [.agg s.pv] (pB (vo s)):=by
 refine ax.of (vE.c ?_)
 refine ae.mk (λh=>(Z_ s).call ⟨_,rfl,?_⟩) (λh=>?_)<;>simp_all [vo,wk,cu]
theorem K_(a:Atom):Pure prog 297 [.agg a.pv] (pB (tY a)):=by
 refine ax.of (Dy.c ?_)
 refine ae.mk (λh=>(BE a.var).call ⟨_,rfl,ae.mk (λh2=>(KQ a.sym).call ⟨_,rfl,?_⟩) (λh2=>?_)⟩) (λh=>(IL a.sym).call ⟨_,rfl,?_⟩)<;>simp_all [tY,Bf,wk,cu]
theorem Ld{T:Type}{f:FuncId}{p:T->Bool}{l:List T}{n:Nat}{body:(Int->Mem->Prop)->Int->Mem->Prop}{u:Mem}(hl:l.length=n)(hn:n<9223372036854775808)(iA:l.all p=false->∀u next,False->body next 0 u)
  (gp:∀(k:Nat) (hk:k<l.length) (u:Mem) (next:Int->Mem->Prop),(p l[k]=true->∀u',next (IntKind.wrap .i64 ((k:Int)+1)) u')->(p l[k]=false->l.all p=false)->body next (k:Int) u) (dH:∀(u:Mem) (next:Int->Mem->Prop),l.all p=true->body next (n:Int) u):aj body 0 u:=by
 refine aj.each (n:=n) hn (λk u=>(l.take k).all p=true) (by simp) ?_ ?_
 ·intro k u next hk hg ar
  have eQ:k<l.length:=by omega
  exact gp k eQ u next (λhp u'=>ar u' (by rw[Lb eQ hg];exact hp)) (λhp=>Lc eQ hp)
 ·intro u next hg
  rw[<- hl,List.take_length]at hg
  exact dH u next hg
theorem aeL(fl:Fl)(t:Test)(ht:t.list.length<=1000000):Pure prog 371 [.agg [pI t.rel,pS t.var,pI t.sym.k,pS t.sym.t,pI t.sym.n,.list 3 fl (t.list.map Sym.pv)]] (pB (gf t)):=by
 refine ax.of (Du.c ?_)
 refine ae.mk (λh8=>?_) (λh8=>?_)
 ·refine ae.mk (λh1=>?_) (λh1=>(KQ t.sym).call ⟨_,rfl,ae.mk (λh2=>?_) (λh2=>ae.mk (λh3=>?_) (λh3=>ae.mk (λh4=>?_) (λh4=>?_)))⟩)
  ·simp[gf,h8,nb h1,wk,cu]
  ·simp[gf,h8,nb h2,wk,cu]
  ·have:¬1<=t.list.length:=by simp at h3;omega
   simp[gf,h8,this,wk,cu]
  ·have:¬t.list.length<=8:=by simp at h4;omega
   simp[gf,h8,this,wk,cu]
  ·have e3:1<=t.list.length:=by simp at h3;omega
   have e4:t.list.length<=8:=by simp at h4;omega
   have hb:gf t=t.list.all vo:=by simp[gf,h8,nt h1,nt h2,e3,e4]
   rw[hb]
   refine Ld (p:=vo) (l:=t.list) (f:=0) rfl (by omega) (λ_ _ _ h=>h.elim) (λk hk u next hy iA=>?_) (λu next ha=>ae.f (by simp) (by rw[ha];rfl))
   refine ae.t (by simpa using hk) ⟨by omega,_,aI hk,_,_,_,rfl,(IL t.list[k]).call ⟨_,rfl,ae.mk (λa=>?_) (λa=>hy (by simpa using a) _)⟩⟩
   rw[iA (by simpa using a)];rfl
 ·refine ae.mk (λh1=>?_) (λh1=>ae.mk (λh2=>?_) (λh2=>ae.mk (λh3=>?_) (λh3=>?_)))
  ·have:¬1<=t.rel:=by simp at h1;omega
   simp[gf,h8,this,wk,cu]
  ·have:¬t.rel<=7:=by simp at h2;omega
   simp[gf,h8,this,wk,cu]
  ·have:¬t.list.length=0:=by simp at h3;omega
   simp[gf,h8,this,wk,cu]
  ·have e1:1<=t.rel:=by simp at h1;omega
   have e2:t.rel<=7:=by simp at h2;omega
   have e3:t.list.length=0:=by simpa using h3
   have hb:gf t=tY ⟨t.var,t.sym⟩:=by simp[gf,h8,e1,e2,e3]
   rw[hb]
   refine ae.mk (λh=>(BE t.var).call ⟨_,rfl,ae.mk (λh2=>(KQ t.sym).call ⟨_,rfl,?_⟩) (λh2=>?_)⟩) (λh=>(IL t.sym).call ⟨_,rfl,?_⟩)<;>simp_all [tY,Bf,wk,cu]
theorem Rk(fl:Fl)(l:List Test)(hl:l.length<=1000000)(ht:∀t∈l,t.list.length<=1000000):Pure prog 296 [.list 6 fl (l.map Test.pv)] (pB (l.all gf)):=by
 refine ax.of (AA.c ?_)
 refine Ld (p:=gf) (l:=l) (f:=0) rfl (by omega) (λ_ _ _ h=>h.elim) (λk hk u next hy iA=>?_) (λu next ha=>ae.f (by simp) (by rw[ha];rfl))
 refine ae.t (by simpa using hk) ⟨by omega,_,aI hk,_,_,_,_,_,_,_,rfl,(aeL .sh l[k] (ht _ (List.getElem_mem hk))).call ⟨_,rfl,ae.mk (λa=>?_) (λa=>hy (by simpa using a) _)⟩⟩
 rw[iA (by simpa using a)];rfl
theorem Rh(a:Atom):Pure prog 374 [.agg a.pv] (pB (Jz a)):=by
 refine ax.of (Dt.c ?_)
 refine ae.mk (λh=>?_) (λh=>?_)<;>simp_all [Jz,wk,cu]
theorem aam(k:Int):Pure prog 299 [pI k] (pB (Hn k)):=by
 refine ax.of (AB.c ?_)
 refine ae.mk (λh=>?_) (λh=>ae.mk (λh2=>?_) (λh2=>?_))<;>simp[Hn,wk,cu, *]
theorem aeM(t:Term):Pure prog 298 [.agg t.pv] (pB (DY t)):=by
 refine ax.of (Dv.c ?_)
 refine ae.mk (λh=>?_) (λh=>ae.mk (λh2=>?_) (λh2=>(K_ t.a).call ⟨_,rfl,ae.mk (λh3=>?_) (λh3=>ae.mk (λh4=>(RB t.b).call ⟨_,rfl,?_⟩)
  (λh4=>(K_ t.b).call ⟨_,rfl,ae.mk (λh5=>(Rh t.a).call ⟨_,rfl,ae.mk (λh6=>(Rh t.b).call ⟨_,rfl,?_⟩) (λh6=>?_)⟩) (λh5=>?_)⟩))⟩))
 ·have:¬0<=t.op:=by simp at h;omega
  simp[DY,this,wk,cu]
 ·have:¬t.op<=3:=by simp at h2;omega
  simp[DY,this,wk,cu]
 all_goals
  have e1:0<=t.op:=by simp at h;omega
  have e2:t.op<=3:=by simp at h2;omega
  grind [DY,wk,cu]
theorem al2(a:kt):Pure prog 213 [.agg a.pv] (pB (tZ a)):=by
 refine ax.of (Gw.c ?_)
 refine(BE a.id).call ⟨_,rfl,ae.mk (λh1=>?_) (λh1=>(K_ a.attr).call ⟨_,rfl,ae.mk (λh2=>?_) (λh2=>(aeM a.value).call ⟨_,rfl,ae.mk (λh3=>?_) (λh3=>ae.mk (λh4=>?_) (λh4=>ae.mk (λh5=>?_)
  (λh5=>(aam a.Cr).call ⟨_,rfl,ae.mk (λh6=>(K_ a.other).call ⟨_,rfl,?_⟩) (λh6=>(RB a.other).call ⟨_,rfl,?_⟩)⟩)))⟩)⟩)⟩
 ·simp_all [tZ,wk,cu]
 ·simp_all [tZ,wk,cu]
 ·simp_all [tZ,wk,cu]
 ·have:¬1<=a.Cr:=by simp at h4;omega
  simp[tZ,this,wk,cu]
 ·have:¬a.Cr<=10:=by simp at h5;omega
  simp[tZ,this,wk,cu]
 all_goals
  have e1:1<=a.Cr:=by simp at h4;omega
  have e2:a.Cr<=10:=by simp at h5;omega
  simp_all [tZ,wk,cu]
theorem NG{n:Nat}{b:Bool}(h:decide (((n:Nat):Int)>0)=b):decide (0<n)=b:=by rw[<- h];simp
theorem UN{n:Nat}{b:Bool}(h:(((n:Nat):Int) == 0)=b):decide (n=0)=b:=by
 rw[<- h,Bool.eq_iff_iff];simp
theorem UA{n:Nat}{b:Bool}(h:decide (((n:Nat):Int)>4)=b):decide (4<n)=b:=by
 rw[<- h,Bool.eq_iff_iff];simp;omega
theorem aaF(c:an)(deep:Int)(hl:iq c):Pure prog 212 [.agg c.pv,pI deep] (pI (bU c deep)):=by
 obtain⟨_,ha,hv,hta,htv,_⟩:=(im c).1 hl
 rw[an.jf]
 refine ax.of (Dx.c ?_)
 have e3:c.kind == 3->c.kind=3:=λh=>by simpa using h
 refine⟨λ_ _=>(c.kind == 3)=false/\((c.kind == 1)||(c.kind == 2))=true,?_,?_⟩
 ·refine ae.mk (λh3=>?_) (λh3=>?_)
  ·refine ae.mk (λh=>?_) (λh=>ae.mk (λh1=>?_) (λh1=>ae.mk (λh2=>?_) (λh2=>ae.mk (λh4=>?_) (λh4=>ae.mk (λh5=>?_) (λh5=>ae.mk (λh6=>?_) (λh6=>ae.mk (λh7=>?_) (λh7=>?_)))))))
   ·simp[bU,h3,h,wk,cu]
   ·simp[bU,h3,nb h1,wk,cu]
   ·rw[List.length_map]at h2;simp only[bU,h3,NG h2,wk,cu];simp
   ·rw[List.length_map]at h4;simp only[bU,h3,NG h4,wk,cu];simp
   ·simp[bU,h3,h5,wk,cu]
   ·rw[List.length_map]at h6;simp only[bU,h3,UN h6,wk,cu];simp
   ·rw[List.length_map]at h2 h4 h6
    have:decide (3<=deep)=true:=h7
    simp only[bU,h3,h,nt h1,NG h2,NG h4,h5,UN h6,this,wk,cu];rfl
   ·rw[List.length_map]at h2 h4 h6
    have:decide (3<=deep)=false:=h7
    simp only[bU,h3,h,nt h1,NG h2,NG h4,h5,UN h6,this,wk,cu];rfl
  ·refine ae.mk (λh1=>ae.mk (λh2=>⟨h3,by simp[h1]⟩) (λh2=>by rw[h1]at h2;cases h2)) (λh1=>ae.mk (λh2=>⟨h3,by simp[h2]⟩) (λh2=>?_))
   simp[bU,h3,h1,h2,wk,cu]
 ·rintro _ u ⟨h3,wv⟩
  refine ae.mk (λh=>?_) (λh=>(BE c.id).call ⟨_,rfl,ae.mk (λh1=>?_) (λh1=>ae.mk (λh2=>?_) (λh2=>ae.mk (λh4=>?_) (λh4=>ae.mk (λh5=>?_) (λh5=>(Rk .sh c.attr (by omega) (xq hta)).call ⟨_,rfl,ae.mk (λh6=>?_) (λh6=>(Rk .sh c.value (by omega) (xq htv)).call ⟨_,rfl,ae.mk (λh7=>?_) (λh7=>?_)⟩)⟩))))⟩)
  ·rw[List.length_map]at h;simp only[bU,h3,wv,NG h,wk,cu];rfl
  ·simp only[bU,h3,wv,nb h1,wk,cu];simp
  ·rw[List.length_map]at h2;simp only[bU,h3,wv,UN h2,wk,cu];simp
  all_goals rw[List.length_map]at h h2 h4
  ·simp only[bU,h3,wv,NG h,nt h1,UN h2,UA h4,wk,cu];simp
  all_goals rw[List.length_map]at h5
  ·simp only[bU,h3,wv,NG h,nt h1,UN h2,UA h4,UA h5,wk,cu];simp
  ·simp only[bU,h3,wv,NG h,nt h1,UN h2,UA h4,UA h5,nb h6,wk,cu];simp
  ·simp only[bU,h3,wv,NG h,nt h1,UN h2,UA h4,UA h5,nt h6,nb h7,wk,cu];simp
  ·simp only[bU,h3,wv,NG h,nt h1,UN h2,UA h4,UA h5,nt h6,nt h7,wk,cu];simp
theorem Rr:∀(n:Nat) (fl:Fl) (l:List an),ao l<=n->ao l<=1000000->Pure prog 220 [.list 7 fl (l.map an.pv)] (pI (ao l:Nat)):=by
 intro n
 induction n with
 |zero=>
  intro fl l h _
  have:l=[]:=by
   cases l with
   |nil=>rfl
   |cons c l=>simp[ao,cT]at h
  subst this
  refine ax.of (j_.c ?_)
  exact aj.ed (n:=0) (by omega) (λk x u=>x=0) rfl (λk x u next hk=>by omega) (λx u next hx=>by subst hx;exact ae.f (by simp) rfl)
 |succ n ih=>
  intro fl l h h6
  refine ax.of (j_.c ?_)
  have xu:=gk l
  refine aj.ed (n:=l.length) (by omega) (λk x u=>x=((ao (l.take k):Nat):Int)) (by simp[ao]) ?_ ?_
  ·rintro k _ u next hk rfl ar
   have hm:=lJ (List.getElem_mem hk)
   have hs:=nU l (k+1)
   rw[fT hk]at hs
   refine ae.t (by simpa using hk) ⟨by omega,_,aI hk,.sh,l[k].conds.map an.pv,by rw[an.jf];rfl,(ih .sh l[k].conds (by omega) (by omega)).call ⟨_,rfl,?_⟩⟩
   dsimp only
   rw[aB (x:=(1:Int)+_) (by omega) (by omega),aB (x:=((ao (l.take k):Nat):Int)+_) (by omega) (by omega)]
   exact ar _ _ (by rw[fT hk];omega)
  ·rintro _ u next rfl
   refine ae.f (by simp) ?_
   rw[List.take_length];rfl
theorem WU(fy:Fn)(ya yb:List PV)(hy:qy fy True)(I:Nat->Mem->Prop)(S:Mem->Prop):∀(n:Nat) (fl:Fl) (l:List an) (a d j:Nat) (μ:Mem),ao l<=n->a+ao l<=1000000->d+ao l<=1000000->I j μ->
  (∀(k:Nat) (x:Nat×Nat×an) (μ:Mem),(dR l a d)[k]?=some x->I (j+k) μ->bc prog (.fn fy ya yb) [pI (x.1:Nat),pI (x.2.1:Nat),.agg x.2.2.pv] μ λv μ'=>(v=pB true/\I (j+k+1) μ')\/(v=pB false/\S μ'))->
  ab prog 209 [.list 7 fl (l.map an.pv),pI (a:Nat),pI (d:Nat),.fn fy ya yb] μ λp μ'=>(p=.aC [pI ((a+ao l:Nat):Int),pB true]/\I (j+ao l) μ')\/∃x:Int,p=.aC [pI x,pB false]/\S μ':=by
 intro n
 induction n with
 |zero=>
  intro fl l a d j μ h _ _ hI _
  have:l=[]:=by
   cases l with
   |nil=>rfl
   |cons c l=>simp[ao,cT]at h
  subst this
  refine uc.c ?_
  exact aj.ed (n:=0) (by omega) (λk x u=>x=(a:Int)/\I j u) ⟨rfl,hI⟩ (λk x u next hk=>by omega) (λx u next hx=>by obtain⟨rfl,hx⟩:=hx;exact ae.f (by simp) (.inl ⟨rfl,hx⟩))
 |succ n ih=>
  intro fl l a d j μ h ha hd hI cQ
  refine uc.c ?_
  have xu:=gk l
  refine aj.ed (n:=l.length) (by omega) (λk x u=>x=((a+ao (l.take k):Nat):Int)/\I (j+ao (l.take k)) u) ⟨by simp[ao],by simpa[ao]using hI⟩ ?_ ?_
  ·rintro k _ u next hk ⟨rfl,Sw⟩ ar
   have hm:=lJ (List.getElem_mem hk)
   have hs:=nU l (k+1)
   rw[fT hk]at hs
   have wP:=Tw hk a d
   have q_:=og (l.take k) a d
   refine ae.t (by simpa using hk) ⟨by omega,_,aI hk,_,_,_,_,_,_,_,_,_,_,by rw[an.jf];rfl,?_⟩
   have h0:=cQ (ao (l.take k)) (a+ao (l.take k),d,l[k]) u (by
    rw[wP,List.append_assoc,List.getElem?_append_right (by omega),q_];simp) Sw
   rw[an.jf]at h0
   refine h0.mono ?_
   rintro v μ1 (⟨rfl,lD⟩|⟨rfl,hS⟩)
   ·refine⟨_,rfl,ae.f rfl ?_⟩
    rw[aB (by omega) (by omega),aB (by omega) (by omega)]
    have ihk:=ih .sh l[k].conds (a+ao (l.take k)+1) (d+1) (j+ao (l.take k)+1) μ1 (by omega) (by omega) (by omega) lD (λk' x μ' hx dC=>by
     have hlen:=og l[k].conds (a+ao (l.take k)+1) (d+1)
     have eQ:k'<ao l[k].conds:=by rw[<- hlen];exact(List.getElem?_eq_some_iff.1 hx).1
     have:=cQ (ao (l.take k)+1+k') x μ' (by
      rw[wP,List.append_assoc,List.getElem?_append_right (by omega),q_]
      have:ao (l.take k)+1+k'-ao (l.take k)=k'+1:=by omega
      rw[this,List.cons_append,List.getElem?_cons_succ,List.getElem?_append_left (by omega)]
      exact hx) (by rw[<- Nat.add_assoc,<- Nat.add_assoc];exact dC)
     rw[<- Nat.add_assoc,<- Nat.add_assoc]at this
     exact this)
    refine ab.mono ihk ?_
    rintro v μ2 (⟨rfl,Ak⟩|⟨x,rfl,hS⟩)
    ·refine⟨_,_,rfl,ae.f rfl (ar _ _ ⟨by rw[fT hk];omega,?_⟩)⟩
     rw[fT hk,<- Nat.add_assoc,<- Nat.add_assoc];exact Ak
    ·exact⟨_,_,rfl,ae.t rfl (.inr ⟨x,rfl,hS⟩)⟩
   ·exact⟨_,rfl,ae.t rfl (.inr ⟨_,rfl,hS⟩)⟩
  ·rintro _ u next ⟨rfl,Sw⟩
   refine ae.f (by simp) (.inl ?_)
   rw[List.take_length]at Sw |-
   exact⟨rfl,Sw⟩
theorem jr{μ:Mem}{b:Nat}{T:TypeId}{p:PV}(h:μ b=some (.cells T [p])):aN μ b 0 1=some [p]:=by simp[aN,h]
theorem GI{μ:Mem}{b:Nat}{T:TypeId}{p q:PV}:(μ.set b (some (.cells T (ei [p] 0 [q])))) b=some (.cells T [q]):=by simp[ei]
theorem Hg{μ:Mem}{b:Nat}{T:TypeId}{p q:PV}:aN (μ.set b (some (.cells T (ei [p] 0 [q])))) b 0 1=some [q]:=jr GI
@[reducible] def ac2(x:Int×Int):PV:=.aC [pI x.1,pI x.2]
theorem RW{l:List kt}{body:(Int->Mem->Prop)->Int->Mem->Prop}{u:Mem}{A:Mem->Prop}(hl:l.length<=1000000)(h0:A u)
  (gp:∀(k:Nat) (hk:k<l.length) (u:Mem) (next:Int->Mem->Prop),A u->(tZ l[k]=true->∀u',A u'->next (IntKind.wrap .i64 ((k:Int)+1)) u')->(tZ l[k]=false->fZ 0 l=some k)->body next (k:Int) u)
  (dH:∀(u:Mem) (next:Int->Mem->Prop),A u->fZ 0 l=none->body next (l.length:Int) u):aj body 0 u:=by
 refine aj.each (n:=l.length) (by omega) (λk u=>A u/\fZ 0 (l.take k)=none) ⟨h0,rfl⟩ ?_ ?_
 ·rintro k u next hk ⟨hA,hf⟩ ar
  exact gp k hk u next hA (λha u' Sz=>ar u' ⟨Sz,by rw[FK hk hf,ha];rfl⟩) (λha=>by have:=Is hk hf ha;simpa using this)
 ·rintro u next ⟨hA,hf⟩
  rw[List.take_length]at hf
  exact dH u next hA hf
theorem aac(fc fa:Fl)(p:Prod)(hl:dT p.conds)(hs:ao p.conds<=1000000)(ha:p.dW.length<=1000000):Pure prog 154 [.agg [pS p.name,.list 7 fc (p.conds.map an.pv),.list 19 fa (p.dW.map kt.pv)]] (ac2 (dz p)):=by
 refine ax.of (AE.c ?_)
 refine(BE p.name).call ⟨_,rfl,ae.mk (λh1=>?_) (λh1=>?_)⟩
 ·simp[dz,nb h1,wk,cu,zM]
 have e1:ku p.name=true:=nt h1
 intro b4 hb4
 refine⟨_,_,Mem.ai _ _ _,by simp,?_⟩
 rw[Mem.set_set]
 have q_:=og p.conds 0 0
 refine ab.mono (WU (.func 210) [] [pP b4 0] trivial (λk μ=>μ b4=some (.cells 3 [pI (k:Nat)])/\k<=16) (λμ=>μ b4=some (.cells 3 [pI 17])/\16<ao p.conds) _ fc p.conds 0 0 0 _ (Nat.le_refl _) (by omega) (by omega) ⟨by simp[Mem.ai,ei],by omega⟩ (λk x μ hx hI=>?_)) ?_
 ·rw[Nat.zero_add]at hI |-
  have yH:=rK _ _ _ _ _ hx
  have hk:k<ao p.conds:=by rw[<- q_];exact(List.getElem?_eq_some_iff.1 hx).1
  show ab _ _ _ _ _
  rw[an.jf]
  refine wW.c ?_
  refine⟨_,_,hI.1,by simp,_,Hg,?_⟩
  rw[yH,Nat.zero_add,aB (by omega) (by omega)]
  by_cases ZK:k+1<=16
  ·exact .inl ⟨by simp;omega,by rw[GI];rfl,ZK⟩
  ·have:k=16:=by omega
   subst this
   exact .inr ⟨by simp,by rw[GI];rfl,hk⟩
 rintro v μ1 hv
 have akF:∃(x:Int) (q:Bool) (m:Nat),v=.aC [pI x,pB q]/\μ1 b4=some (.cells 3 [pI (m:Nat)])/\(m<=16->m=ao p.conds)/\(16<m->16<ao p.conds):=by
  rcases hv with⟨rfl,h1,h2⟩|⟨x,rfl,h1,h2⟩
  ·rw[Nat.zero_add]at h1 h2
   exact⟨_,_,_,rfl,h1,λ_=>rfl,λh=>by omega⟩
  ·exact⟨_,_,17,rfl,h1,λh=>by omega,λ_=>h2⟩
 obtain⟨x,q,m,rfl,qv,lS,Sr⟩:=akF
 refine⟨_,_,rfl,_,jr qv,ae.mk (λh2=>?_) (λh2=>⟨_,jr qv,ae.mk (λh3=>?_) (λh3=>ae.mk (λh4=>?_) (λh4=>ae.mk (λh5=>?_) (λh5=>?_)))⟩)⟩
 ·have:ao p.conds<1:=by have:=of_decide_eq_true h2;have:=lS (by omega);omega
  simp[dz,e1,this,wk,cu,zM]
 ·have:16<ao p.conds:=Sr (by simp at h3;omega)
  simp[dz,e1,this,wk,cu,zM]
 ·have:p.dW.length<1:=by have:=of_decide_eq_true h4;simp only[List.length_map]at this;omega
  simp[dz,e1,this,wk,cu,zM]
 ·have:16<p.dW.length:=by simp at h5;omega
  simp[dz,e1,this,wk,cu,zM]
 have zP:m=ao p.conds:=lS (by simp at h3;omega)
 subst zP
 have e2:¬ao p.conds<1:=by have:=of_decide_eq_false h2;omega
 have e3:¬16<ao p.conds:=by simp at h3;omega
 have e4:¬p.dW.length<1:=by have:=of_decide_eq_false h4;simp only[List.length_map]at this;omega
 have e5:¬16<p.dW.length:=by simp at h5;omega
 have hsh:dz p=kT p:=by simp[dz,e1,e2,e3,e4,e5]
 intro b5 Sv b6 Uw
 have n54:b5≠b4:=by rintro rfl;rw[qv]at Sv;cases Sv
 have YL:b6≠b5:=by rintro rfl;rw[Mem.ai]at Uw;cases Uw
 have n64:b6≠b4:=by rintro rfl;rw[Mem.aw _ _ (Ne.symm n54)]at Uw;rw[qv]at Uw;cases Uw
 refine⟨_,_,by rw[Mem.aw _ _ (Ne.symm YL)];exact Mem.ai _ _ _,by simp,?_⟩
 refine⟨_,_,by rw[Mem.aw _ _ YL];exact Mem.ai _ _ _,by simp,?_⟩
 refine ab.mono (WU (.func 211) [] [pP b6 0,pP b5 0] trivial (λk μ=>μ b4=some (.cells 3 [pI (ao p.conds:Nat)])/\μ b5=some (.cells 3 [pI (-1)])/\μ b6=some (.cells 78 [pI 0])/\dj ((dR p.conds 0 0).take k)=none)
  (λμ=>∃a e,μ b5=some (.cells 3 [pI (a:Nat)])/\μ b6=some (.cells 78 [pI e])/\dj (dR p.conds 0 0)=some (a,e)) _ fc p.conds 0 0 0 _ (Nat.le_refl _) (by omega) (by omega) ?_ (λk x μ hx hI=>?_)) ?_
 ·refine⟨?_,?_,by simp[ei],rfl⟩
  ·rw[Mem.aw _ _ (Ne.symm n64),Mem.aw _ _ (Ne.symm n54),Mem.aw _ _ (Ne.symm n64),Mem.aw _ _ (Ne.symm n54)];exact qv
  ·rw[Mem.aw _ _ (Ne.symm YL),Mem.ai];simp[ei]
 ·rw[Nat.zero_add]at hI |-
  obtain⟨i4,i5,i6,Us⟩:=hI
  have hlx:=rP _ _ _ x hl (List.mem_of_getElem? hx)
  have ir:=FI hx Us
  show ab _ _ _ _ _
  have hc:=aaF x.2.2 x.2.1 hlx
  rw[an.jf]at hc |-
  refine wV.c (hc.call ⟨_,rfl,_,_,i6,by simp,_,Hg,ae.mk (λh=>?_) (λh=>?_)⟩)
  ·have bm:(bU x.2.2 x.2.1 == 0)=false:=by simpa using h
   refine⟨_,_,by rw[Mem.aw _ _ (Ne.symm YL)];exact i5,by simp,_,jr (by rw[Mem.aw _ _ YL];exact GI),.inr ⟨by rw[bm],x.1,bU x.2.2 x.2.1,?_,?_,?_⟩⟩
   ·exact GI
   ·rw[Mem.aw _ _ YL];exact GI
   ·rw[bm]at ir;exact FJ ir
  ·have he:(bU x.2.2 x.2.1 == 0)=true:=by simpa using h
   have he0:bU x.2.2 x.2.1=0:=by simpa using he
   refine⟨_,Hg,.inl ⟨by rw[he],?_,?_,?_,?_⟩⟩
   ·rw[Mem.aw _ _ (Ne.symm n64)];exact i4
   ·rw[Mem.aw _ _ (Ne.symm YL)];exact i5
   ·rw[GI,he0]
   ·rw[ir,he];rfl
 rintro v μ2 hv
 rcases hv with⟨rfl,i4,i5,i6,Us⟩|⟨x,rfl,a,e,i5,i6,hfe⟩
 ·rw[Nat.zero_add,<- q_,List.take_length]at Us
  refine⟨_,_,rfl,_,jr i6,ae.f rfl ?_⟩
  refine RW (l:=p.dW) (A:=λμ=>μ b4=some (.cells 3 [pI (ao p.conds:Nat)])) ha i4 (λk hk u next hA hy iA=>?_) (λu next _ hf=>?_)
  ·refine ae.t (by simpa using hk) ⟨by omega,_,aI hk,_,_,_,_,_,_,_,_,_,_,_,_,_,_,_,_,_,_,_,rfl,(al2 p.dW[k]).call ⟨_,rfl,ae.mk (λa=>⟨_,jr hA,?_⟩) (λa=>hy (nt a) _ hA)⟩⟩
   rw[hsh,ON Us (iA (nb a)),aB (by omega) (by omega)]
   simp[wk,cu,zM]
  ·refine ae.f (by simp) ?_
   rw[hsh,LG Us hf];rfl
 ·have bm:=Bx hfe
  refine⟨_,_,rfl,_,jr i6,ae.t (by simpa using bm) ⟨_,jr i5,_,jr i6,?_⟩⟩
  rw[hsh,OM hfe];rfl
def hasB(K:List ByteArray)(v:ByteArray):Bool:=K.any λx=>aG x v
theorem yL{K:List ByteArray}{v:ByteArray}:hasB K v=true↔v∈K:=by
 unfold hasB
 rw[List.any_eq_true]
 constructor
 ·rintro⟨x,hx,e⟩;rw[cf]at e;exact e▸hx
 ·intro h;exact⟨v,h,cf.2 rfl⟩
def uY(K:List ByteArray)(v:ByteArray):List ByteArray:=bif hasB K v then[]else[v]
theorem EN(K:List ByteArray)(v:ByteArray):(uY K v).length<=1:=by unfold uY;cases hasB K v<;>simp
def yp(K:List ByteArray)(t:Test):Option (List ByteArray):=
 bif (t.rel == 8)||aG t.var ⟨#[]⟩then some K else bif t.rel == 1 then some (K++uY K t.var)else bif hasB K t.var then some K else none
def nu:List ByteArray->List Test->Option (List ByteArray)
 |K,[]=>some K
 |K,t::ts=>match yp K t with
  |some K'=>nu K' ts
  |none=>none
theorem wc(K:List ByteArray)(a b:List Test):nu K (a++b)=(nu K a).bind λK'=>nu K' b:=by
 induction a generalizing K with
 |nil=>rfl
 |cons t a ih=>
  simp only[List.cons_append,nu]
  cases yp K t with
  |none=>rfl
  |some K'=>exact ih K'
theorem Bg{K K':List ByteArray}{ts:List Test}{i:Nat}(hi:i<ts.length)(h:nu K (ts.take i)=some K'):nu K (ts.take (i+1))=yp K' ts[i]:=by
 rw[List.take_add_one,wc,h,List.getElem?_eq_getElem hi]
 simp only[Option.bind_some,Option.toList_some,nu]
 cases yp K' ts[i]<;>rfl
theorem Mf{K K':List ByteArray}{ts:List Test}{i:Nat}(hi:i<ts.length)(h:nu K (ts.take i)=some K')(hn:yp K' ts[i]=none):nu K ts=none:=by
 have:ts=ts.take (i+1)++ts.drop (i+1):=(List.take_append_drop _ _).symm
 rw[this,wc,Bg hi h,hn];rfl
def Mg(K:List ByteArray)(c:an):Option (List ByteArray):=
 (λK0=>bif hasB K0 c.id then(nu K0 c.attr).bind λK1=>nu K1 c.value else none) (bif c.goal then K++uY K c.id else K)
mutual
def yC:an->Nat->List ByteArray->Except Nat (List ByteArray)
 | .mk k g i a v ac cs,n,K=>
   bif k == 3 then(match fI cs (n+1) K with
    | .error e=>.error e
    | .ok _=>.ok K)
   else match Mg K (.mk k g i a v ac cs)with
    |none=>.error n
    |some K'=>.ok (bif k == 1 then K' else K)
def fI:List an->Nat->List ByteArray->Except Nat (List ByteArray)
 |[],_,K=>.ok K
 |c::cs,n,K=>match yC c n K with
  | .error e=>.error e
  | .ok K'=>fI cs (n+cP c) K'
end
theorem PR(c:an)(n:Nat)(K:List ByteArray):yC c n K=(bif c.kind == 3 then(match fI c.conds (n+1) K with
   | .error e=>.error e
   | .ok _=>.ok K)
  else match Mg K c with
   |none=>.error n
   |some K'=>.ok (bif c.kind == 1 then K' else K)):=by cases c;simp only[yC];rfl
theorem tF(a b:List an)(n:Nat)(K:List ByteArray):fI (a++b) n K=match fI a n K with
  | .error e=>.error e
  | .ok K'=>fI b (n+ao a) K':=by
 induction a generalizing n K with
 |nil=>simp[fI,ao]
 |cons c a ih=>
  simp only[List.cons_append,fI,ao]
  cases yC c n K with
  |error e=>rfl
  |ok K'=>simp only[ih];rw[Nat.add_assoc]
theorem yB{l:List an}{n i:Nat}{K K':List ByteArray}(hi:i<l.length)(h:fI (l.take i) n K=.ok K'):fI (l.take (i+1)) n K=yC l[i] (n+ao (l.take i)) K':=by
 rw[List.take_add_one,tF,h,List.getElem?_eq_getElem hi]
 simp only[Option.toList_some,fI]
 cases yC l[i] (n+ao (l.take i)) K'<;>rfl
theorem rR{l:List an}{n i e:Nat}{K K':List ByteArray}(hi:i<l.length)(h:fI (l.take i) n K=.ok K')(hn:yC l[i] (n+ao (l.take i)) K'=.error e):fI l n K=.error e:=by
 have:l=l.take (i+1)++l.drop (i+1):=(List.take_append_drop _ _).symm
 rw[this,tF,yB hi h,hn]
def YA(t:Test):Prop:=t.rel=8->aG t.var ⟨#[]⟩=true
mutual
def okC:an->Prop
 | .mk k _ _ a v _ cs=>(k=3\/((k=1\/k=2)/\cs.length=0))/\a.length<=4/\v.length<=4/\(∀t∈a,YA t)/\(∀t∈v,YA t)/\xp cs
def xp:List an->Prop
 |[]=>True
 |c::cs=>okC c/\xp cs
end
theorem Pq(c:an):okC c↔(c.kind=3\/((c.kind=1\/c.kind=2)/\c.conds.length=0))/\c.attr.length<=4/\c.value.length<=4/\(∀t∈c.attr,YA t)/\(∀t∈c.value,YA t)/\xp c.conds:=by cases c;rfl
theorem TH{l:List an}:xp l↔∀c∈l,okC c:=by
 induction l with
 |nil=>simp[xp]
 |cons c l ih=>simp[xp,ih]
theorem DX{t:Test}(h:gf t=true):YA t:=λe=>by
 unfold gf at h
 simp only[e,beq_self_eq_true,cond_true,Bool.and_eq_true]at h
 exact h.1
theorem QX{c:an}{d:Int}(h:bU c d=0):(c.kind=3\/((c.kind=1\/c.kind=2)/\c.conds.length=0))/\c.attr.length<=4/\c.value.length<=4/\(∀t∈c.attr,YA t)/\(∀t∈c.value,YA t):=by
 unfold bU at h
 cases h3:c.kind == 3 with
 |true=>
  rw[h3]at h
  simp only[cond_true]at h
  have hk:c.kind=3:=by simpa using h3
  cases hb:(c.goal||(!aG c.id ⟨#[]⟩||(decide (0<c.attr.length)||(decide (0<c.value.length)||(c.acc||decide (c.conds.length=0))))))with
  |true=>rw[hb]at h;simp at h
  |false=>
   simp only[Bool.or_eq_false_iff,decide_eq_false_iff_not]at hb
   obtain⟨_,_,ha,hv,_⟩:=hb
   refine⟨.inl hk,by omega,by omega,λt ht=>?_,λt ht=>?_⟩
   ·have:=List.length_pos_of_mem ht;omega
   ·have:=List.length_pos_of_mem ht;omega
 |false=>
  rw[h3]at h
  simp only[cond_false]at h
  cases wv:(c.kind == 1)||(c.kind == 2)with
  |false=>rw[wv]at h;simp at h
  |true=>
   rw[wv]at h
   simp only[cond_true]at h
   have hk:c.kind=1\/c.kind=2:=by simpa using wv
   cases hb:(decide (0<c.conds.length)||(!ku c.id||decide (c.attr.length=0)))with
   |true=>rw[hb]at h;simp at h
   |false=>
    rw[hb]at h
    simp only[cond_false]at h
    cases hm:(decide (4<c.attr.length)||decide (4<c.value.length))with
    |true=>rw[hm]at h;simp at h
    |false=>
     rw[hm]at h
     simp only[cond_false]at h
     cases ht:(!(c.attr.all gf)|| !(c.value.all gf))with
     |true=>rw[ht]at h;simp at h
     |false=>
      simp only[Bool.or_eq_false_iff,decide_eq_false_iff_not,Bool.not_eq_false',List.all_eq_true]at hb hm ht
      exact⟨.inr ⟨hk,by omega⟩,by omega,by omega,λt h=>DX (ht.1 t h),λt h=>DX (ht.2 t h)⟩
theorem wB{l:List (Nat×Nat×an)}(h:dj l=none):∀x∈l,bU x.2.2 x.2.1=0:=by
 induction l with
 |nil=>intro x hx;cases hx
 |cons y l ih=>
  obtain⟨a,d,c⟩:=y
  simp only[dj]at h
  cases hc:bU c d == 0 with
  |false=>rw[hc]at h;cases h
  |true=>
   rw[hc]at h
   intro x hx
   rcases List.mem_cons.1 hx with rfl|hx
   ·simpa using hc
   ·exact ih h x hx
mutual
theorem TJ:∀(c:an) (a d:Nat),(∀x∈ni c a d,bU x.2.2 x.2.1=0)->okC c
 | .mk k g i at_ v ac cs,a,d,h=>by
   have h0:=QX (h (a,d,.mk k g i at_ v ac cs) (by simp[ni]))
   exact⟨h0.1,h0.2.1,h0.2.2.1,h0.2.2.2.1,h0.2.2.2.2,Ct cs (a+1) (d+1) λx hx=>h x (by simp[ni,hx])⟩
theorem Ct:∀(l:List an) (a d:Nat),(∀x∈dR l a d,bU x.2.2 x.2.1=0)->xp l
 |[],_,_,_=>trivial
 |c::cs,a,d,h=>⟨TJ c a d λx hx=>h x (by simp[dR,hx]),Ct cs (a+cP c) d λx hx=>h x (by simp[dR,hx])⟩
end
def wg(K:List ByteArray)(a:Atom):Bool:= !aG a.var ⟨#[]⟩&& !hasB K a.var
def mX(K:List ByteArray)(a:kt):Bool:=wg K a.attr||((a.value.op != 0)&&(wg K a.value.a||wg K a.value.b))
def iv(K:List ByteArray):Nat->List kt->Option Nat
 |_,[]=>none
 |i,a::l=>bif mX K a then some i else iv K (i+1) l
theorem FH{K:List ByteArray}{l:List kt}{k i:Nat}(hk:k<l.length)(h:iv K i (l.take k)=none):iv K i (l.take (k+1))=(bif mX K l[k]then some (i+k)else none):=by
 induction l generalizing k i with
 |nil=>simp at hk
 |cons a l ih=>
  cases k with
  |zero=>simp[iv]
  |succ k=>
   simp only[List.take_succ_cons,iv,List.getElem_cons_succ]at h |-
   cases ha:mX K a with
   |true=>rw[ha]at h;cases h
   |false=>
    rw[ha]at h
    simp only[cond_false]at h |-
    rw[ih (by simpa using hk) h]
    congr 2;omega
theorem Ir{K:List ByteArray}{l:List kt}{k i:Nat}(hk:k<l.length)(h:iv K i (l.take k)=none)(ha:mX K l[k]=true):iv K i l=some (i+k):=by
 induction l generalizing k i with
 |nil=>simp at hk
 |cons a l ih=>
  cases k with
  |zero=>simp only[List.getElem_cons_zero]at ha;simp[iv,ha]
  |succ k=>
   simp only[List.take_succ_cons,iv,List.getElem_cons_succ]at h ha |-
   cases hb:mX K a with
   |true=>rw[hb]at h;cases h
   |false=>
    rw[hb]at h
    simp only[cond_false]at h |-
    rw[ih (by simpa using hk) h ha]
    congr 1;omega
def cJ(p:Prod):Int×Int×List ByteArray:=
 bif (dz p).2 != 0 then((dz p).1,(dz p).2,[])else
 bif (p.conds.head?.map an.kind).getD 0 != 1 then(0,9,[])else
 match fI p.conds 0 []with
 | .error n=>((n:Int),6,[])
 | .ok K=>match iv K 0 p.dW with
   |some i=>(((ao p.conds+i:Nat):Int),6,[])
   |none=>(-1,0,K)
theorem AQ{p:Prod}(h:(dz p).2=0):1<=ao p.conds/\ao p.conds<=16/\1<=p.dW.length/\p.dW.length<=16/\xp p.conds:=by
 unfold dz at h
 cases hw:ku p.name with
 |false=>rw[hw]at h;simp at h
 |true=>
  rw[hw]at h
  simp only[Bool.not_true,cond_false]at h
  cases hb:(decide (ao p.conds<1)||(decide (16<ao p.conds)||(decide (p.dW.length<1)||decide (16<p.dW.length))))with
  |true=>rw[hb]at h;simp at h
  |false=>
   rw[hb]at h
   simp only[cond_false]at h
   simp only[Bool.or_eq_false_iff,decide_eq_false_iff_not]at hb
   refine⟨by omega,by omega,by omega,by omega,Ct _ 0 0 (wB ?_)⟩
   unfold kT at h
   split at h
   ·rename_i a e he
    exfalso
    have:∀l:List (Nat×Nat×an),dj l=some (a,e)->e≠0:=by
     intro l
     induction l with
     |nil=>intro h;cases h
     |cons y l ih=>
      obtain⟨a',d,c⟩:=y
      simp only[dj]
      cases hc:bU c d == 0 with
      |true=>exact ih
      |false=>
       intro h
       simp only[cond_false,Option.some.injEq,Prod.mk.injEq]at h
       rw[<- h.2];simpa using hc
    exact this _ he h
   ·assumption
namespace K6
abbrev pL:TypeId:=275
abbrev DT:TypeId:=9
def ub(μ:Mem)(p:PV)(row:List ByteArray)(F:List Nat):Prop:=(p=.list 1 .nil []/\row=[]/\F=[])\/vD DT 1 μ p (c_ row) F
theorem ub.at_{μ:Mem}{p:PV}{row:List ByteArray}{F:List Nat}(h:ub μ p row F):∀x∈F,μ x≠none:=by
 rcases h with⟨_,_,rfl⟩|h
 ·intro x hx;cases hx
 ·exact h.at_
theorem ub.same{μ μ':Mem}{p:PV}{row:List ByteArray}{F:List Nat}(h:ub μ p row F)(hk:∀x∈F,μ' x=μ x):ub μ' p row F:=by
 rcases h with h|h
 ·exact .inl h
 ·exact .inr (h.same hk)
theorem ub.view{μ:Mem}{p:PV}{row:List ByteArray}{F:List Nat}(h:ub μ p row F):mh μ p (.list 1 .sh (c_ row)):=by
 rcases h with⟨rfl,rfl,_⟩|h
 ·exact .wk (.list 1 .nil [])
 ·exact h.view (bZ _) (ig _)
structure gZ(μ:Mem)(k:Nat)(K row:List ByteArray)(F:List Nat):Prop where
 ex:∃b L p Fs Fr,μ k=some (.cells pL [pP b 0,p])/\zF μ b L Fs/\Up bN L/\(∀y,y∈L↔y∈K)/\L.length<=K.length/\ub μ p row Fr/\k∉Fs/\(∀x∈Fr,x≠k/\x∉Fs)/\F=k::(Fs++Fr)
 row:row.length<=K.length
theorem gZ.at_{μ:Mem}{k:Nat}{K row:List ByteArray}{F:List Nat}(h:gZ μ k K row F):∀x∈F,μ x≠none:=by
 obtain⟨b,L,p,Fs,Fr,h1,h2,_,_,_,h3,_,_,rfl⟩:=h.ex
 intro x hx
 simp only[List.mem_cons,List.mem_append]at hx
 rcases hx with rfl|hx|hx
 ·rw[h1];simp
 ·exact h2.at_.2 x hx
 ·exact h3.at_ x hx
theorem gZ.same{μ μ':Mem}{k:Nat}{K row:List ByteArray}{F:List Nat}(h:gZ μ k K row F)(hk:∀x∈F,μ' x=μ x):gZ μ' k K row F:=by
 obtain⟨b,L,p,Fs,Fr,h1,h2,h3,h4,h5,h6,h7,h8,rfl⟩:=h.ex
 exact⟨⟨b,L,p,Fs,Fr,by rw[hk k (by simp)];exact h1,h2.same λx hx=>hk x (by simp[hx]),h3,h4,h5,h6.same λx hx=>hk x (by simp[hx]),h7,h8,rfl⟩,h.row⟩
theorem gZ.raw{μ:Mem}{k:Nat}{K row:List ByteArray}{F:List Nat}(h:gZ μ k K row F):∃μ',GU μ μ'/\Mv μ μ' F F/\∃b L p Fs Fr,μ' k=some (.cells pL [pP b 0,p])/\zF μ' b L Fs/\Up bN L/\(∀y,y∈L↔y∈K)/\L.length<=K.length/\vD DT 1 μ' p (c_ row) Fr/\k∉Fs/\(∀x∈Fr,x≠k/\x∉Fs)/\F=k::(Fs++Fr):=by
 obtain⟨b,L,p,Fs,Fr,h1,h2,h3,h4,h5,h6,h7,h8,rfl⟩:=h.ex
 rcases h6 with⟨rfl,rfl,rfl⟩|h6
 ·refine⟨μ.set k (some (.cells pL [pP b 0,.raw (.slice none 0 0)])),GU.bor (μ1:=M0) (λ_ _ h=>by cases h) λx o hx=>⟨rfl,?_⟩,(Mv.set (.inl (by simp))).sub (by simp),b,L,_,Fs,[],Mem.ai _ _ _,h2.same λx hx=>Mem.aw _ _ (λe=>h7 (e▸hx)),h3,h4,h5,.inl ⟨rfl,rfl,rfl⟩,h7,h8,rfl⟩
  by_cases e:x=k
  ·subst e
   rw[Mem.ai]at hx;cases hx
   exact .inr ⟨pL,_,_,rfl,h1,jA.cons (.same _) (jA.cons (.nil 1 []) (jA.nil _))⟩
  ·rw[Mem.aw _ _ e]at hx;exact .inl hx
 ·exact⟨μ,GU.refl μ,Mv.refl _ _,b,L,p,Fs,Fr,h1,h2,h3,h4,h5,h6,h7,h8,rfl⟩
theorem Rt{μ:Mem}{k:Nat}{K row:List ByteArray}{F:List Nat}(h:gZ μ k K row F)(hl:K.length<=100000)(v:ByteArray){R:Kq}(hk:∀μ' F',gZ μ' k (K++uY K v) (row++uY K v) F'->Mv μ μ' F F'->R (.aC []) μ'):ab prog 304 [pP k 0,pS v] μ R:=by
 have gW:=h.row
 obtain⟨μ0,hG,Ss,b,L,p,Fs,Fr,h1,h2,h3,h4,h5,h6,h7,h8,rfl⟩:=h.raw
 refine ab.pre hG (ue.c ?_)
 refine⟨_,bM h1 (by simp),f_ h2 h3 (by omega) v λμ1 L1 F1 t ht i1 i2 i3 i4 i5=>⟨_,rfl,?_⟩⟩
 have hkF:μ1 k=μ0 k:=i5.bV k (by rw[h1];simp) h7
 have hFr:∀x∈Fr,μ1 x=μ0 x:=λx hx=>i5.bV x (h6.at_ x hx) (h8 x hx).2
 have ZH:=h6.same hFr
 have Ik:=hkF.trans h1
 have Zn:k∉F1:=λhm=>(i5.grow k hm).elim h7 λe=>by rw[h1]at e;cases e
 have Zb:∀x∈Fr,x∉F1:=λx hx hm=>(i5.grow x hm).elim (h8 x hx).2 (h6.at_ x hx)
 have qv:Mv μ0 μ1 (k::(Fs++Fr)) (k::(F1++Fr)):=by
  refine(i5.wide (G:=k::(Fs++Fr)) λx hx=>by simp[hx]).sub λx hx=>?_
  simp only[List.mem_cons,List.mem_append]at hx |-
  rcases hx with h|h|h
  ·exact .inr (.inl h)
  ·exact .inl h
  ·exact .inr (.inr (.inr h))
 refine ae.mk (λe=>?_) (λe=>?_)
 ·have hn:v∉K:=λhv=>ht.1 e ((h4 v).2 hv)
  have hb:hasB K v=false:=by
   cases hb:hasB K v with
   |false=>rfl
   |true=>exact absurd (yL.1 hb) hn
  have lR:uY K v=[v]:=by unfold uY;rw[hb];rfl
  rw[lR]at hk
  obtain⟨a,c,rfl,jQ⟩:=ZH.app (bZ row)
  refine⟨_,_,_,bM Ik (by simp),?_⟩
  simp only[dc]at jQ
  rw[dc]
  refine jQ [pS v] 16 _ rfl rfl (by omega) (by omega) λb' c' rest μ2 jO kK jN lS=>?_
  have nk:b'≠k:=by
   rintro rfl
   rcases lS.grow b' (by simp)with h|h
   ·exact(h8 b' h).1 rfl
   ·rw[Ik]at h;cases h
  have nF:b'∉F1:=λhx=>by
   rcases lS.grow b' (by simp)with h|h
   ·exact Zb b' h hx
   ·exact i1.at_.2 b' hx h
  have qw:μ2 k=μ1 k:=lS.bV k (by rw[Ik];simp) λhx=>(h8 k hx).1 rfl
  refine⟨_,_,qw.trans Ik,by simp,?_⟩
  have hw:ei [pP b 0,.raw (.slice a (c_ row).length c)] (0+1) [PV.raw (.slice (some ⟨b',0,none⟩) (row.length+1) c')]=[pP b 0,.raw (.slice (some ⟨b',0,none⟩) (row.length+1) c')]:=by simp[ei]
  rw[hw]
  have akW:Mv μ1 μ2 (k::(F1++Fr)) (k::(F1++[b'])):=by
   refine(lS.wide (G:=k::(F1++Fr)) λx hx=>by simp[hx]).sub λx hx=>?_
   simp only[List.mem_cons,List.mem_append,List.not_mem_nil,or_false]at hx |-
   rcases hx with h|h|h
   ·exact .inr (.inl h)
   ·exact .inr (.inr (.inl h))
   ·exact .inl h
  refine hk _ (k::(F1++[b'])) ⟨⟨b,L1,_,F1,[b'],Mem.ai _ _ _,i1.same λx hx=>?_,i2,λy=>?_,by rw[e]at i4;simp at i4 |-;omega,.inr (.inr ⟨b',c',rest,?_,rfl,?_,?_,?_⟩),Zn,λx hx=>?_,rfl⟩,by simp;omega⟩ (Ss.trans (qv.trans (akW.trans ((Mv.set (.inl (by simp))).sub (by simp)))))
  ·rw[Mem.aw _ _ (show x≠k from λe=>Zn (e▸hx))]
   exact lS.bV x (i1.at_.2 x hx) λxt=>Zb x xt hx
  ·rw[i3,h4];simp[or_comm]
  ·simp
  ·rw[Mem.aw _ _ nk,jO];simp[c_]
  ·simpa using kK
  ·simpa using jN
  ·simp at hx;subst hx;exact⟨nk,nF⟩
 ·have hv:v∈K:=by
   refine Classical.byContradiction λhn=>?_
   have:=ht.2 λhv=>hn ((h4 v).1 hv)
   rw[e]at this;cases this
  have lR:uY K v=[]:=by unfold uY;rw[yL.2 hv];rfl
  rw[lR,List.append_nil,List.append_nil]at hk
  refine hk μ1 (k::(F1++Fr)) ⟨⟨b,L1,p,F1,Fr,Ik,i1,i2,λy=>?_,?_,.inr ZH,Zn,λx hx=>⟨(h8 x hx).1,Zb x hx⟩,rfl⟩,gW⟩ (Ss.trans qv)
  ·rw[i3,h4];exact⟨λh=>h.elim (λe=>e▸hv) id,.inr⟩
  ·rw[e]at i4;simp at i4;omega
theorem aaz{μ:Mem}{k:Nat}{K row:List ByteArray}{F:List Nat}(h:gZ μ k K row F)(hl:K.length<=100000)(v:ByteArray){R:Kq}(hk:R (pB (hasB K v)) μ):ab prog 217 [pP k 0,pS v] μ R:=by
 obtain⟨b,L,p,Fs,Fr,h1,h2,h3,h4,h5,h6,h7,h8,rfl⟩:=h.ex
 refine uf.c ?_
 refine⟨_,bM h1 (by simp),gL h2 h3 (by omega) v λi t hf=>⟨_,_,rfl,?_⟩⟩
 have:t=hasB K v:=by
  have e:t=true↔hasB K v=true:=by rw[hf.mem dJ,h4,yL]
  exact Bool.eq_iff_iff.2 e
 rw[this];exact hk
theorem aaw{μ:Mem}{k:Nat}{K row:List ByteArray}{F:List Nat}(h:gZ μ k K row F){R:Kq}(hk:∀μ' k2 F1 F2,gZ μ' k K row F1->gZ μ' k2 K [] F2->(∀x∈F2,x∉F1)->Mv μ μ' F (F1++F2)->R (pP k2 0) μ'):ab prog 215 [pP k 0] μ R:=by
 have nG:=h.at_
 obtain⟨b,L,p,Fs,Fr,h1,h2,h3,h4,h5,h6,h7,h8,rfl⟩:=h.ex
 refine qC.c ?_
 refine⟨_,bM h1 (by simp),aaH h2 λμ1 b2 hb2 bm i1 i2 i3=>⟨_,rfl,λk2 qw=>?_⟩⟩
 have hkF:μ1 k=μ k:=i3.bV k (by rw[h1];simp) h7
 have bP:μ1 k≠none:=by rw[hkF,h1];simp
 have adJ:∀x∈Fr,μ1 x=μ x:=λx hx=>i3.bV x (nG x (by simp[hx])) (h8 x hx).2
 have n1:∀x,μ1 x≠none->x≠k2:=λx hx e=>hx (e▸qw)
 have nb2:b2≠k:=by
  rintro rfl
  rcases hb2 with h|h
  ·exact h7 h
  ·rw[h1]at h;cases h
 have hbk:b≠k:=by rintro rfl;exact h7 h2.at_.1
 have ade:∀x∈Fr,x≠b/\x≠b2:=λx hx=>⟨λe=>(h8 x hx).2 (e▸h2.at_.1),λe=>by
  subst e
  rcases hb2 with h|h
  ·exact(h8 x hx).2 h
  ·exact nG x (by simp[hx]) h⟩
 have acm:∀x∈Fr,μ1 x≠none:=λx hx=>by rw[adJ x hx];exact nG x (by simp[hx])
 refine hk _ k2 (k::([b]++Fr)) (k2::([b2]++[])) ⟨⟨b,L,p,[b],Fr,?_,i1.same λx hx=>?_,h3,h4,h5,h6.same λx hx=>?_,by simp[Ne.symm hbk],λx hx=>⟨(h8 x hx).1,by simp[(ade x hx).1]⟩,rfl⟩,h.row⟩ ⟨⟨b2,L,_,[b2],[],Mem.ai _ _ _,i2.same λx hx=>?_,h3,h4,h5,.inl ⟨rfl,rfl,rfl⟩,?_,λx hx=>by simp at hx,rfl⟩,by simp⟩ (λx hx=>?_) ?_
 ·rw[Mem.aw _ _ (n1 k bP),hkF];exact h1
 ·exact Mem.aw _ _ (n1 x (i1.at_.2 x hx))
 ·rw[Mem.aw _ _ (n1 x (acm x hx))];exact adJ x hx
 ·exact Mem.aw _ _ (n1 x (i2.at_.2 x hx))
 ·simp only[List.mem_singleton];rintro rfl;exact i2.at_.2 k2 (by simp) qw
 ·simp only[List.append_nil,List.mem_cons,List.not_mem_nil,or_false]at hx
  intro xt
  simp only[List.mem_cons,List.mem_append,List.not_mem_nil,or_false]at xt
  rcases hx with rfl|rfl
  ·rcases xt with e|e|e
   ·exact bP (e▸qw)
   ·exact i1.at_.2 x (by simp[e]) qw
   ·exact acm x e qw
  ·rcases xt with e|e|e
   ·exact nb2 e
   ·exact bm e
   ·exact(ade x e).2 rfl
 ·refine((i3.wide (G:=k::(Fs++Fr)) λx hx=>by simp[hx]).trans (Mv.set (.inr qw))).sub λx hx=>?_
  simp only[List.append_nil,List.mem_cons,List.mem_append,List.not_mem_nil,or_false]at hx |-
  rcases hx with(rfl|rfl|hx)|rfl|rfl
  ·simp
  ·simp
  ·simp[hx]
  ·simp
  ·simp
theorem RA{μ:Mem}{k:Nat}{K row:List ByteArray}{F:List Nat}(h:gZ μ k K row F)(fl:Fl)(ts:List Test)(hl:K.length+ts.length<=100000){R:Kq}
  (aD:∀μ' F' K' e,nu K ts=some K'->K'=K++e->e.length<=ts.length->gZ μ' k K' (row++e) F'->Mv μ μ' F F'->R (pB true) μ') (iA:∀μ' F',nu K ts=none->Mv μ μ' F F'->R (pB false) μ'):ab prog 305 [pP k 0,.list 6 fl (ts.map Test.pv)] μ R:=by
 refine qD.c ?_
 refine aj.each (n:=ts.length) (by omega) (λi u=>∃Ki e Fi,nu K (ts.take i)=some Ki/\Ki=K++e/\e.length<=i/\gZ u k Ki (row++e) Fi/\Mv μ u F Fi) ⟨K,[],F,by simp[nu],by simp,by simp,by simpa using h,Mv.refl _ _⟩ ?_ ?_
 ·rintro i u next hi ⟨Ki,e,Fi,i1,rfl,i2,i3,i4⟩ ar
  have hlen:(K++e).length<=100000:=by rw[List.length_append];omega
  refine ae.t (by simpa using hi) ⟨by omega,_,aI hi,_,_,_,_,_,_,_,rfl,?_⟩
  have hT:=Bg hi i1
  have same:yp (K++e) ts[i]=some (K++e)->∀u',u'=u->next (IntKind.wrap .i64 ((i:Int)+1)) u':=λhm u' dZ=>by
   subst dZ
   exact ar _ ⟨K++e,e,Fi,by rw[hT,hm],rfl,by omega,i3,i4⟩
  refine ae.mk (λh8=>same (by simp[yp,h8]) _ rfl) (λh8=>ae.mk (λhv=>same (by simp[yp,hv]) _ rfl) (λhv=>ae.mk (λh1=>?_) (λh1=>?_)))
  ·refine Rt i3 hlen ts[i].var λμ' F' j1 j2=>⟨rfl,ar _ ⟨K++(e++uY (K++e) ts[i].var),e++uY (K++e) ts[i].var,F',?_,rfl,?_,by rw[List.append_assoc,List.append_assoc]at j1;exact j1,i4.trans j2⟩⟩
   ·rw[hT];simp[yp,h8,hv,h1]
   ·have:=EN (K++e) ts[i].var;rw[List.length_append];omega
  ·refine aaz i3 hlen ts[i].var ⟨_,rfl,ae.mk (λhh=>?_) (λhh=>?_)⟩
   ·refine iA u Fi (Mf hi i1 ?_) i4
    have hh:hasB (K++e) ts[i].var=false:=nb hh
    simp[yp,h8,hv,h1,hh]
   ·have hh:hasB (K++e) ts[i].var=true:=nt hh
    exact same (by simp[yp,h8,hv,h1,hh]) _ rfl
 ·rintro u next ⟨Ki,e,Fi,i1,rfl,i2,i3,i4⟩
  rw[List.take_length]at i1
  exact ae.f (by simp) (aD u Fi _ e i1 rfl i2 i3 i4)
theorem aeP{μ:Mem}{k:Nat}{K row:List ByteArray}{F:List Nat}(h:gZ μ k K row F)(c:an)(hc:okC c)(hl:K.length<=10000){R:Kq}
  (aD:∀μ' F' K' e,Mg K c=some K'->K'=K++e->e.length<=9->gZ μ' k K' (row++e) F'->Mv μ μ' F F'->R (pB true) μ') (iA:∀μ' F',Mg K c=none->Mv μ μ' F F'->R (pB false) μ'):ab prog 216 [pP k 0,.agg c.pv] μ R:=by
 obtain⟨_,ha,hv,_,_,_⟩:=(Pq c).1 hc
 rw[an.jf]
 refine ud.c ?_
 have go:∀(u:Mem) (e:List ByteArray) (F1:List Nat),K++e=(bif c.goal then K++uY K c.id else K)->e.length<=1->gZ u k (K++e) (row++e) F1->Mv μ u F F1->
   ab prog 217 [pP k 0,pS c.id] u λLo uB=>∃VQ,Lo=pB VQ/\ae VQ (ab prog 305 [pP k 0,.list 6 .sh (c.attr.map Test.pv)] uB λXG JB=>∃x19,XG=pB x19/\ae x19 (ab prog 305 [pP k 0,.list 6 .sh (c.value.map Test.pv)] JB λv_3 Gy=>∃x25,v_3=pB x25/\R (pB x25) Gy) (R (pB false) JB)) (R (pB false) uB):=by
  intro u e F1 he hle i1 i2
  have hm:Mg K c=(bif hasB (K++e) c.id then(nu (K++e) c.attr).bind λK1=>nu K1 c.value else none):=by unfold Mg;rw[<- he]
  have hlen:(K++e).length<=10001:=by rw[List.length_append];omega
  refine aaz i1 (by omega) c.id ⟨_,rfl,ae.mk (λhh=>?_) (λhh=>iA u F1 (by rw[hm,hh];rfl) i2)⟩
  rw[hh]at hm
  refine RA i1 .sh c.attr (by omega) (λμ1 F2 K1 e1 j1 j2 j3 j4 j5=>⟨_,rfl,ae.t rfl ?_⟩) (λμ1 F2 j1 j5=>⟨_,rfl,ae.f rfl (iA μ1 F2 (by rw[hm,j1];rfl) (i2.trans j5))⟩)
  subst j2
  refine RA j4 .sh c.value (by rw[List.length_append];omega) (λμ2 F3 K2 e2 l1 l2 l3 l4 l5=>⟨_,rfl,?_⟩) (λμ2 F3 l1 l5=>⟨_,rfl,iA μ2 F3 (by rw[hm];simp only[cond_true,j1,Option.bind_some];exact l1) (i2.trans (j5.trans l5))⟩)
  refine aD μ2 F3 K2 (e++e1++e2) (by rw[hm];simp only[cond_true,j1,Option.bind_some];exact l1) (by rw[l2];simp) (by simp;omega) ?_ (i2.trans (j5.trans l5))
  simpa using l4
 refine cw.of λJ hJ=>ae.mk (λhg=>?_) (λhg=>?_)
 ·refine Rt h (by omega) c.id λμ1 F1 j1 j2=>⟨rfl,hJ _ _ (go μ1 _ F1 (by rw[hg];rfl) (EN K c.id) j1 j2)⟩
 ·exact hJ _ _ (go μ [] F (by rw[hg];simp) (by simp) (by simpa using h) (Mv.refl _ _))
theorem gZ.beside{μ μ' mQ:Mem}{k:Nat}{K row:List ByteArray}{F F1 F2 F2':List Nat}(h:gZ μ' k K row F1)(hd:∀x∈F2,x∉F1)(hm:Mv μ μ' F (F1++F2))(nv:Mv μ' mQ F2 F2'):gZ mQ k K row F1/\Mv μ mQ F F1:=by
 refine⟨h.same λx hx=>nv.bV x (h.at_ x hx) λxt=>hd x xt hx,?_⟩
 refine(hm.trans (nv.wide (G:=F1++F2) λx hx=>by simp[hx])).sub λx hx=>by simp[hx]
theorem Ve:∀(n:Nat) {μ:Mem} {k:Nat} {K row:List ByteArray} {F:List Nat} (h:gZ μ k K row F) (fl:Fl) (l:List an) (at_:Nat),ao l<=n->xp l->K.length<=9*at_->at_+ao l<=1000->∀{R:Kq},
  (∀μ' F' K' e,fI l at_ K=.ok K'->K'=K++e->K'.length<=9*(at_+ao l)->gZ μ' k K' (row++e) F'->Mv μ μ' F F'->R (.aC [pI ((at_+ao l:Nat):Int),pB true]) μ')->(∀μ' F' (e:Nat),fI l at_ K=.error e->Mv μ μ' F F'->R (.aC [pI (e:Int),pB false]) μ')->
  ab prog 156 [pP k 0,.list 7 fl (l.map an.pv),pI (at_:Nat)] μ R:=by
 intro n
 induction n with
 |zero=>
  intro μ k K row F h fl l at_ hn _ _ _ R aD _
  have:l=[]:=by
   cases l with
   |nil=>rfl
   |cons c l=>simp[ao,cT]at hn
  subst this
  refine jl.c ?_
  exact aj.ed (n:=0) (by omega) (λi x u=>x=((at_:Nat):Int)/\u=μ) ⟨rfl,rfl⟩ (λi x u next hi=>by omega) (λx u next hx=>by
   obtain⟨rfl,rfl⟩:=hx
   exact ae.f (by simp) (aD u F K [] rfl (by simp) (by simp[ao];omega) (by simpa using h) (Mv.refl _ _)))
 |succ n ih=>
  intro μ k K row F h fl l at_ hn akL hK eg R aD Zt
  refine jl.c ?_
  have xu:=gk l
  refine aj.ed (n:=l.length) (by omega) (λi x u=>x=((at_+ao (l.take i):Nat):Int)/\∃Ki e Fi,fI (l.take i) at_ K=.ok Ki/\Ki=K++e/\Ki.length<=9*(at_+ao (l.take i))/\gZ u k Ki (row++e) Fi/\Mv μ u F Fi) ⟨by simp[ao],K,[],F,by simp[fI],by simp,by simp[ao];omega,by simpa using h,Mv.refl _ _⟩ ?_ ?_
  ·rintro i _ u next hi ⟨rfl,Ki,e,Fi,i1,rfl,i2,i3,i4⟩ ar
   have hm:=lJ (List.getElem_mem hi)
   have hs:=nU l (i+1)
   have iu:=fT hi
   rw[iu]at hs
   have fw:=TH.1 akL l[i] (List.getElem_mem hi)
   obtain⟨Wu,_,_,_,_,adR⟩:=(Pq _).1 fw
   have hT:=yB hi i1
   have hC:=PR l[i] (at_+ao (l.take i)) (K++e)
   have gW:aA l[i].pv 0 7=some [pI l[i].kind,pB l[i].goal,pS l[i].id,.list 6 .sh (l[i].attr.map Test.pv),.list 6 .sh (l[i].value.map Test.pv),pB l[i].acc,.list 7 .sh (l[i].conds.map an.pv)]:=by rw[an.jf];rfl
   refine ae.t (by simpa using hi) ⟨by omega,_,aI hi,_,_,_,_,_,_,_,_,_,_,gW,?_⟩
   dsimp only
   have ZB:IntKind.wrap .i64 (((at_+ao (l.take i):Nat):Int)+1)=((at_+ao (l.take i)+1:Nat):Int):=by rw[aB (by omega) (by omega)];omega
   refine cw.of λJ hJ=>ae.mk (λhp=>?_) (λhp=>?_)
   ·have bP:(l[i].kind == 1)=false:=by simpa using hp
    refine aaw i3 λμ1 k2 F1 F2 j1 j2 j3 j4=>⟨_,rfl,hJ _ _ (ae.mk (λh3=>?_) (λh3=>?_))⟩
    ·rw[ZB]
     rw[h3]at hC
     refine ih j2 .sh l[i].conds (at_+ao (l.take i)+1) (by omega) adR (by omega) (by omega) (λμ2 F3 K2 e2 l1 l2 l3 l4 l5=>⟨_,_,rfl,ae.f rfl ?_⟩) (λμ2 F3 e2 l1 l5=>⟨_,_,rfl,ae.t rfl (Zt μ2 _ e2 (rR hi i1 (by rw[hC,l1];rfl)) (i4.trans (j1.beside j3 j4 l5).2))⟩)
     obtain⟨b1,b2⟩:=j1.beside j3 j4 l5
     refine ar _ _ ⟨?_,K++e,e,F1,?_,rfl,?_,b1,i4.trans b2⟩
     ·rw[iu];congr 1;omega
     ·rw[hT,hC,l1];rfl
     ·rw[iu];omega
    ·rw[h3,bP]at hC
     have qx:l[i].conds.length=0:=by
      rcases Wu with h|h
      ·rw[h]at h3;simp at h3
      ·exact h.2
     have Zw:l[i].conds=[]:=List.eq_nil_of_length_eq_zero qx
     have akx:ao l[i].conds=0:=by rw[Zw];rfl
     have lC:PV.agg [pI l[i].kind,pB l[i].goal,pS l[i].id,.list 6 .sh (l[i].attr.map Test.pv),.list 6 .sh (l[i].value.map Test.pv),pB l[i].acc,.list 7 .sh (l[i].conds.map an.pv)]=.agg l[i].pv:=by rw[an.jf]
     rw[lC]
     refine aeP j2 l[i] fw (by omega) (λμ2 F3 K2 e2 l1 l2 l3 l4 l5=>⟨_,rfl,ae.f rfl ?_⟩) (λμ2 F3 l1 l5=>⟨_,rfl,ae.t rfl (Zt μ2 _ _ (rR hi i1 (by rw[hC,l1];rfl)) (i4.trans (j1.beside j3 j4 l5).2))⟩)
     obtain⟨b1,b2⟩:=j1.beside j3 j4 l5
     rw[ZB]
     refine ar _ _ ⟨?_,K++e,e,F1,?_,rfl,?_,b1,i4.trans b2⟩
     ·rw[iu];congr 1;omega
     ·rw[hT,hC,l1];rfl
     ·rw[iu];omega
   ·have bP:l[i].kind=1:=by simpa using hp
    have h3:(l[i].kind == 3)=false:=by rw[bP];rfl
    refine hJ _ _ (ae.f h3 ?_)
    rw[h3,show(l[i].kind == 1)=true by rw[bP];rfl]at hC
    have qx:l[i].conds.length=0:=by
     rcases Wu with h|h
     ·rw[bP]at h;cases h
     ·exact h.2
    have Zw:l[i].conds=[]:=List.eq_nil_of_length_eq_zero qx
    have akx:ao l[i].conds=0:=by rw[Zw];rfl
    have lC:PV.agg [pI l[i].kind,pB l[i].goal,pS l[i].id,.list 6 .sh (l[i].attr.map Test.pv),.list 6 .sh (l[i].value.map Test.pv),pB l[i].acc,.list 7 .sh (l[i].conds.map an.pv)]=.agg l[i].pv:=by rw[an.jf]
    rw[lC]
    refine aeP i3 l[i] fw (by omega) (λμ2 F3 K2 e2 l1 l2 l3 l4 l5=>⟨_,rfl,ae.f rfl ?_⟩) (λμ2 F3 l1 l5=>⟨_,rfl,ae.t rfl (Zt μ2 _ _ (rR hi i1 (by rw[hC,l1];rfl)) (i4.trans l5))⟩)
    rw[ZB]
    refine ar _ _ ⟨?_,K2,e++e2,F3,?_,by rw[l2,List.append_assoc],?_,by rw[<- List.append_assoc];exact l4,i4.trans l5⟩
    ·rw[iu];congr 1;omega
    ·rw[hT,hC,l1];rfl
    ·rw[iu,l2,List.length_append];omega
  ·rintro _ u next ⟨rfl,Ki,e,Fi,i1,rfl,i2,i3,i4⟩
   rw[List.take_length]at i1 i2
   refine ae.f (by simp) ?_
   dsimp only
   rw[List.take_length]
   exact aD u Fi _ e i1 rfl i2 i3 i4
theorem II{μ:Mem}{k:Nat}{K row:List ByteArray}{F:List Nat}(h:gZ μ k K row F)(hl:K.length<=100000)(a:Atom){R:Kq}(hk:R (pB (wg K a)) μ):ab prog 157 [pP k 0,.agg a.pv] μ R:=by
 refine qB.c ?_
 refine ae.mk (λhv=>aaz h hl a.var ⟨_,rfl,?_⟩) (λhv=>?_)
 ·have:wg K a= !hasB K a.var:=by unfold wg;rw[hv];rfl
  rw[this]at hk;exact hk
 ·have:wg K a=false:=by unfold wg;rw[hv];rfl
  rw[this]at hk;exact hk
end K6
open K6
@[reducible] def Hk(fc fa:Fl)(p:Prod):PV:=.agg [pS p.name,.list 7 fc (p.conds.map an.pv),.list 19 fa (p.dW.map kt.pv)]
@[reducible] def KM(x:Int×Int×List ByteArray):PV:=.aC [pI x.1,pI x.2.1,.list 1 .sh (c_ x.2.2)]
theorem Na{μ:Mem}(fc fa:Fl)(p:Prod)(hl:dT p.conds)(hs:ao p.conds<=1000000)(ha:p.dW.length<=1000000){R:Kq}(hR:∀μ' q Fr,ub μ' q (cJ p).2.2 Fr->Mv μ μ' [] Fr->R (.aC [pI (cJ p).1,pI (cJ p).2.1,q]) μ'):ab prog 106 [Hk fc fa p] μ R:=by
 refine wU.c ?_
 have TO:(cJ p).2.2=[]->∀μ' a e,Mv μ μ' [] []->(cJ p).1=a->(cJ p).2.1=e->R (.aC [pI a,pI e,.list 1 .nil []]) μ':=λh0 μ' a e hm h1 h2=>by
  have:=hR μ' (.list 1 .nil []) [] (.inl ⟨rfl,h0,rfl⟩) hm
  rw[h1,h2]at this
  exact this
 refine(aac .sh .sh p hl hs ha).call ⟨_,_,rfl,ae.mk (λh1=>?_) (λh1=>?_)⟩
 ·have hE:cJ p=((dz p).1,(dz p).2,[]):=by unfold cJ;rw[h1];rfl
  exact TO (by rw[hE]) _ _ _ (Mv.refl _ _) (by rw[hE]) (by rw[hE])
 have h0:(dz p).2=0:=by simpa using h1
 obtain⟨s1,s2,s3,s4,aD⟩:=AQ h0
 cases hc:p.conds with
 |nil=>rw[hc]at s1;simp[ao]at s1
 |cons c cs=>
 refine⟨by omega,c.pv,rfl,_,by rw[an.jf];rfl,ae.mk (λh2=>?_) (λh2=>?_)⟩
 ·have hE:cJ p=(0,9,[]):=by unfold cJ;rw[h1,hc];simp only[cond_false,List.head?_cons,Option.map_some,Option.getD_some,h2,cond_true]
  exact TO (by rw[hE]) _ _ _ (Mv.refl _ _) (by rw[hE]) (by rw[hE])
 have hE:cJ p=match fI p.conds 0 []with
   | .error n=>((n:Int),6,[])
   | .ok K=>match iv K 0 p.dW with
     |some i=>(((ao p.conds+i:Nat):Int),6,[])
     |none=>(-1,0,K):=by
  unfold cJ
  rw[h1]
  simp only[cond_false]
  rw[show(p.conds.head?.map an.kind).getD 0=c.kind by rw[hc];rfl,h2]
  rfl
 rw[<- hc]
 refine gX .nil λμ1 b hb i1 i2=>⟨_,rfl,λk hk=>?_⟩
 have MA:k≠b:=by rintro rfl;exact i1.at_.2 k (by simp) hk
 have hkn:gZ (μ1.set k (some (.cells pL [pP b 0,.list 1 .nil []]))) k [] [] (k::([b]++[])):=by
  refine⟨⟨b,[],_,[b],[],Mem.ai _ _ _,i1.same λx hx=>Mem.aw _ _ ?_,List.Pairwise.nil,λy=>Iff.rfl,Nat.le_refl _,.inl ⟨rfl,rfl,rfl⟩,by simpa using MA,λx hx=>by simp at hx,rfl⟩,Nat.le_refl _⟩
  rintro rfl
  simp at hx;exact MA hx
 have Ss:Mv μ (μ1.set k (some (.cells pL [pP b 0,.list 1 .nil []]))) [] (k::([b]++[])):=i2.trans (Mv.set (.inr hk))
 refine ab.post (Ve _ hkn fc p.conds 0 (Nat.le_refl _) aD (by simp) (by omega) (λμ2 F2 K e j1 j2 j3 j4 j5=>?_) (λμ2 F2 e j1 j5=>?_))
 ·rw[List.nil_append]at j2 j4
  subst j2
  obtain⟨μ3,hG,Sr,b',L,q,Fs,Fr,m1,_,_,_,_,m6,_,_,hF⟩:=j4.raw
  refine⟨μ3,hG,_,_,rfl,ae.f rfl ?_⟩
  rw[Nat.zero_add]at j3
  have j4':gZ μ3 k K K F2:=by
   obtain⟨μ4,_,_,_⟩:=j4.raw
   exact⟨⟨b',L,q,Fs,Fr,m1,by assumption,by assumption,by assumption,by assumption,.inr m6,by assumption,by assumption,hF⟩,Nat.le_refl _⟩
  have ND:Mv μ μ3 [] F2:=Ss.trans (j5.trans Sr)
  have akS:Mv μ μ3 [] []:=ND.sub (by simp)
  refine aj.each (n:=p.dW.length) (by omega) (λi u=>u=μ3/\iv K 0 (p.dW.take i)=none) ⟨rfl,rfl⟩ ?_ ?_
  ·rintro i u next hi ⟨rfl,hf⟩ ar
   have hT:=FH hi hf
   refine ae.t (by simpa using hi) ⟨by omega,_,aI hi,_,_,_,_,_,_,_,_,_,_,_,_,_,_,_,_,_,_,_,rfl,?_⟩
   have Qw:mX K p.dW[i]=true->R (.aC [pI (IntKind.wrap .i64 (((0+ao p.conds:Nat):Int)+(i:Int))),pI 6,.list 1 .nil []]) u:=λhl=>by
    have Sx:cJ p=(((ao p.conds+i:Nat):Int),6,[]):=by rw[hE,j1];simp only[Ir hi hf hl,Nat.zero_add]
    refine TO (by rw[Sx]) _ _ _ akS ?_ (by rw[Sx])
    rw[Sx,aB (by omega) (by omega)];simp only;omega
   have Me:mX K p.dW[i]=false->next (IntKind.wrap .i64 ((i:Int)+1)) u:=λhl=>ar _ ⟨rfl,by rw[hT,hl];rfl⟩
   refine II j4' (by omega) p.dW[i].attr ⟨_,rfl,ae.mk (λa1=>?_) (λa1=>?_)⟩
   ·exact Qw (by unfold mX;rw[a1];rfl)
   refine ae.mk (λa2=>?_) (λa2=>Me (by unfold mX;rw[a1,a2];rfl))
   refine II j4' (by omega) p.dW[i].value.a ⟨_,rfl,ae.mk (λa3=>?_) (λa3=>?_)⟩
   ·exact Qw (by unfold mX;rw[a1,a2,a3];rfl)
   refine II j4' (by omega) p.dW[i].value.b ⟨_,rfl,ae.mk (λa4=>?_) (λa4=>?_)⟩
   ·exact Qw (by unfold mX;rw[a1,a2,a3,a4];rfl)
   ·exact Me (by unfold mX;rw[a1,a2,a3,a4];rfl)
  ·rintro u next ⟨rfl,hf⟩
   rw[List.take_length]at hf
   have Sx:cJ p=(-1,0,K):=by rw[hE,j1];simp only[hf]
   obtain⟨a,c',rfl,_⟩:=m6.app (bZ K)
   refine ae.f (by simp) ⟨_,_,_,bM m1 (by simp),?_⟩
   have:=hR u _ Fr (by rw[Sx];exact .inr m6) (ND.sub λx hx=>by rw[hF];simp[hx])
   rw[Sx]at this
   exact this
 ·have Sx:cJ p=((e:Int),6,[]):=by rw[hE,j1]
  exact⟨μ2,GU.refl _,_,_,rfl,ae.t rfl (TO (by rw[Sx]) _ _ _ ((Ss.trans j5).sub (by simp)) (by rw[Sx]) (by rw[Sx]))⟩
theorem RF(fc fa:Fl)(p:Prod)(hl:dT p.conds)(hs:ao p.conds<=1000000)(ha:p.dW.length<=1000000):Pure prog 106 [Hk fc fa p] (KM (cJ p)):=by
 refine ab.agC (Na fc fa p hl hs ha λμ' q Fr h hm=>⟨KM (cJ p),.aC rfl (λd hd=>?_) (λi c d hc hd=>?_),rfl⟩)
 ·simp only[List.mem_cons,List.not_mem_nil,or_false]at hd
  rcases hd with rfl|rfl|rfl<;>rfl
 ·match i with
  |0=>simp at hc hd;subst hc hd;exact .same _
  |1=>simp at hc hd;subst hc hd;exact .same _
  |2=>simp at hc hd;subst hc hd;exact h.view
  |n+3=>simp at hc
theorem aaI(fc fa:Fl)(p:Prod)(hl:dT p.conds)(hs:ao p.conds<=1000000)(ha:p.dW.length<=1000000):Pure prog 52 [Hk fc fa p] (.aC [pI (cJ p).1,pI (cJ p).2.1]):=by
 refine ax.of (AF.c ?_)
 exact(RF .sh .sh p hl hs ha).call ⟨_,_,_,_,rfl,rfl⟩
def HR(p:Prod):Prop:=dT p.conds/\ao p.conds<=40/\p.dW.length<=40/\p.name.size<=100
theorem aax(fc fa:Fl)(p:Prod):ax prog 50 [.agg [pS p.name,.list 7 fc (p.conds.map an.pv),.list 19 fa (p.dW.map kt.pv)]] λr=>∃q:Bool,r=pB q/\(q=false->HR p):=by
 refine ax.of (sA.c ?_)
 have yes:∃q:Bool,wk (pB true)=pB q/\(q=false->HR p):=⟨true,rfl,λh=>by cases h⟩
 refine(aav _ fc p.conds 40 0 (Nat.le_refl _) (by omega) (by omega)).call ?_
 rintro _ ⟨r,rfl,Zc,GC⟩
 refine⟨_,rfl,ae.mk (λ_=>yes) (λa1=>ae.mk (λ_=>yes) (λa2=>ae.mk (λ_=>yes) (λa3=>?_)))⟩
 have a1:=of_decide_eq_false a1
 have a2:=of_decide_eq_false a2
 have a3:=of_decide_eq_false a3
 simp only[List.length_map]at a2
 have hs:=GC (by omega)
 refine(F_ _ fc p.conds (Nat.le_refl _) (by omega)).call ?_
 rintro _ ⟨q,rfl,hq⟩
 exact⟨_,rfl,q,rfl,λh=>⟨hq h,by omega,by omega,by omega⟩⟩
theorem BC{p:Prod}(h:(cJ p).2.1=0):(dz p).2=0/\fI p.conds 0 []=.ok (cJ p).2.2:=by
 unfold cJ at h |-
 cases h1:(dz p).2 != 0<;>rw[h1]at h
 ·have h0:(dz p).2=0:=by simpa using h1
  refine⟨h0,?_⟩
  simp only[cond_false]at h |-
  cases h2:(p.conds.head?.map an.kind).getD 0 != 1<;>rw[h2]at h
  ·simp only[cond_false]at h |-
   cases hk:fI p.conds 0 []with
   |error e=>rw[hk]at h;simp at h
   |ok K=>
    rw[hk]at h
    simp only at h |-
    cases hf:iv K 0 p.dW with
    |some i=>rw[hf]at h;simp at h
    |none=>rfl
  ·simp at h
 ·simp only[cond_true]at h;simp[h]at h1
theorem SU{v:ByteArray}(h:ku v=true):v≠⟨#[]⟩:=by
 rintro rfl
 have:ku ⟨#[]⟩=false:=by kernel_rfl
 rw[this]at h;cases h
structure NJ where
 tags:List Int
 binds:List az.Bind
def bz:List Int->List Int->Int
 |[],b=> -(b.length:Int)
 |a::l,[]=>(l.length:Int)+1
 |a::l,b::r=>if a=b then bz l r else a-b
theorem xQ:∀a b:List Int,bz a b=0↔a=b
 |[],[]=>by simp[bz]
 |[],b::r=>by simp only[bz,List.length_cons];constructor<;>intro h<;>first|omega|cases h
 |a::l,[]=>by simp only[bz];constructor<;>intro h<;>first|omega|cases h
 |a::l,b::r=>by
  simp only[bz]
  split
  ·rename_i e;rw[xQ l r];simp[e]
  ·rename_i e;constructor<;>intro h<;>first|omega|(cases h;exact absurd rfl e)
theorem xR:∀a b:List Int,bz a b<0↔0<bz b a
 |[],[]=>by simp[bz]
 |[],b::r=>by simp only[bz,List.length_cons];constructor<;>intro h<;>omega
 |a::l,[]=>by simp only[bz,List.length_cons];constructor<;>intro h<;>omega
 |a::l,b::r=>by
  simp only[bz]
  by_cases e:a=b
  ·subst e;simp only[if_true];exact xR l r
  ·rw[if_neg e,if_neg (Ne.symm e)];omega
theorem vV:∀a b d:List Int,bz a b<0->bz b d<0->bz a d<0
 |[],[],d,h,_=>by simp[bz]at h
 |[],b::r,[],_,k=>by simp only[bz]at k;omega
 |[],b::r,d::s,_,_=>by simp only[bz,List.length_cons];omega
 |a::l,[],d,h,_=>by simp only[bz]at h;omega
 |a::l,b::r,[],_,k=>by simp only[bz]at k;omega
 |a::l,b::r,d::s,h,k=>by
  simp only[bz]at h k |-
  by_cases e1:a=b
  ·subst e1
   simp only[if_true]at h
   by_cases e2:a=d
   ·subst e2
    simp only[if_true]at k |-
    exact vV l r s h k
   ·rw[if_neg e2]at k |-;exact k
  ·rw[if_neg e1]at h
   by_cases e2:b=d
   ·subst e2;rw[if_neg e1];exact h
   ·rw[if_neg e2]at k;rw[if_neg (by omega)];omega
theorem xS:∀(k:Nat) (a b:List Int),k<=a.length->k<=b.length->a.take k=b.take k->bz a b=bz (a.drop k) (b.drop k)
 |0,_,_,_,_,_=>rfl
 |k+1,[],_,h,_,_=>by simp at h
 |k+1,_::_,[],_,h,_=>by simp at h
 |k+1,a::l,b::r,h1,h2,h=>by
  simp only[List.take_succ_cons,List.cons.injEq]at h
  simp only[bz,List.drop_succ_cons]
  rw[if_pos h.1]
  exact xS k l r (by simpa using h1) (by simpa using h2) h.2
@[reducible] def dU(k:Int):List PV:=[pI k]
mutual
def zT(es:List av):an->List az.Bind->List (List az.Bind)
 | .mk k g i a v ac cs,b=>if k=1 then(bf (.mk k g i a v ac cs) b es).map (·.2)else if k=2 then(if(bf (.mk k g i a v ac cs) b es).isEmpty then[b]else[])else(if(vY es cs [b]).isEmpty then[b]else[])
def vY(es:List av):List an->List (List az.Bind)->List (List az.Bind)
 |[],rows=>rows
 |c::cs,rows=>vY es cs (rows.flatMap λb=>zT es c b)
end
theorem rX(es:List av)(c:an)(b:List az.Bind):zT es c b=if c.kind=1 then(bf c b es).map (·.2)else if c.kind=2 then(if(bf c b es).isEmpty then[b]else[])else(if(vY es c.conds [b]).isEmpty then[b]else[]):=by
 cases c;simp only[zT];rfl
mutual
def cC(es:List av):an->List az.Bind->Nat->Nat
 | .mk k g i a v ac cs,b,0=>(zT es (.mk k g i a v ac cs) b).length
 | .mk k g i a v ac cs,b,j+1=>if k=1\/k=2 then 0 else cL es cs [b] j
def cL(es:List av):List an->List (List az.Bind)->Nat->Nat
 |[],_,_=>0
 |c::cs,rows,j=>if j<cP c then(rows.map λb=>cC es c b j).sum else cL es cs (rows.flatMap λb=>zT es c b) (j-cP c)
end
theorem Vj(es:List av)(c:an)(b:List az.Bind):cC es c b 0=(zT es c b).length:=by cases c;rfl
theorem Dj(es:List av)(c:an)(b:List az.Bind)(j:Nat):cC es c b (j+1)=if c.kind=1\/c.kind=2 then 0 else cL es c.conds [b] j:=by cases c;rfl
theorem Di(es:List av):∀(cs:List an) (rows:List (List az.Bind)) (j:Nat),ao cs<=j->cL es cs rows j=0
 |[],_,_,_=>rfl
 |c::cs,rows,j,h=>by
  simp only[ao]at h
  simp only[cL]
  rw[if_neg (by omega)]
  exact Di es cs _ _ (by omega)
def agz:NJ:=⟨[],[]⟩
def stepT(es:List av)(c:an)(ts:List NJ):List NJ:=
 if c.kind=1 then ts.flatMap λt=>(bf c t.binds es).map λx=>⟨t.tags++[x.1.tag],x.2⟩else ts.filter λt=> !(zT es c t.binds).isEmpty
def AJ(es:List av)(p:List an):List NJ:=p.foldl (λts c=>stepT es c ts) [agz]
def US(es:List av)(c:an)(ts:List NJ)(j:Nat):Nat:=(ts.map λt=>cC es c t.binds j).sum
abbrev Path:=List an
def sh(a:Nat)(f:Nat->Nat)(i:Nat):Nat:=if a<=i then f (i-a)else 0
theorem JL(f:Nat->Nat)(i:Nat):sh 0 f i=f i:=by unfold sh;simp
theorem acB(a:Nat)(f:Nat->Nat):sh a f a=f 0:=by unfold sh;simp
theorem acA(a b:Nat)(f:Nat->Nat)(i:Nat):sh a (λj=>sh b f j) i=sh (a+b) f i:=by
 unfold sh
 by_cases h1:a<=i
 ·rw[if_pos h1]
  dsimp only
  by_cases h2:b<=i-a
  ·rw[if_pos h2,if_pos (by omega)];congr 1;omega
  ·rw[if_neg h2,if_neg (by omega)]
 ·rw[if_neg h1,if_neg (by omega)]
theorem X_(a:Nat)(f g:Nat->Nat)(i:Nat):sh a (λj=>f j+g j) i=sh a f i+sh a g i:=by unfold sh;split<;>rfl
theorem Ef{a:Nat}{f g:Nat->Nat}(h:∀j,f j=g j)(i:Nat):sh a f i=sh a g i:=by rw[show f=g from funext h]
theorem aaJ(es:List av)(c:an)(b:List az.Bind){j:Nat}(h:cP c<=j):cC es c b j=0:=by
 rw[cT]at h
 obtain⟨i,rfl⟩:∃i,j=i+1:=⟨j-1,by omega⟩
 rw[Dj]
 split
 ·rfl
 ·exact Di es _ _ _ (by omega)
def gT(es:List av)(c:an)(rows:List (List az.Bind))(j:Nat):Nat:=(rows.map λb=>cC es c b j).sum
theorem Ea(es:List av)(c:an)(rows:List (List az.Bind)){j:Nat}(h:cP c<=j):gT es c rows j=0:=by
 unfold gT
 induction rows with
 |nil=>rfl
 |cons b rows ih=>rw[List.map_cons,List.sum_cons,ih,aaJ es c b h]
theorem Lx(es:List av)(c:an)(rows:List (List az.Bind)):gT es c rows 0=(rows.flatMap λb=>zT es c b).length:=by
 unfold gT
 rw[List.length_flatMap]
 congr 1
 exact List.map_congr_left λb _=>Vj es c b
theorem BF(es:List av):∀(a b:List an) (rows:List (List az.Bind)) (j:Nat),cL es (a++b) rows j=cL es a rows j+sh (ao a) (cL es b (vY es a rows)) j
 |[],b,rows,j=>by simp[cL,vY,ao,JL]
 |d::a,b,rows,j=>by
  simp only[List.cons_append,cL,vY,ao]
  by_cases h:j<cP d
  ·rw[if_pos h,if_pos h]
   unfold sh;rw[if_neg (by omega)];rfl
  ·rw[if_neg h,if_neg h,BF es a b]
   congr 1
   unfold sh
   by_cases h2:ao a<=j-cP d
   ·rw[if_pos h2,if_pos (by omega)];congr 1;omega
   ·rw[if_neg h2,if_neg (by omega)]
theorem aau(es:List av)(c:an)(rows:List (List az.Bind))(j:Nat):cL es [c] rows j=gT es c rows j:=by
 simp only[cL]
 by_cases h:j<cP c
 ·rw[if_pos h];rfl
 ·rw[if_neg h,Ea es c rows (by omega)]
theorem Df(es:List av){l:List an}{i:Nat}(hi:i<l.length)(rows:List (List az.Bind))(j:Nat):cL es (l.take (i+1)) rows j=cL es (l.take i) rows j+sh (ao (l.take i)) (gT es l[i] (vY es (l.take i) rows)) j:=by
 have e:l.take (i+1)=l.take i++[l[i]]:=by rw[List.take_add_one,List.getElem?_eq_getElem hi];rfl
 rw[e,BF]
 congr 1
 exact Ef (λj=>aau es _ _ j) j
theorem Ee{l:List an}{i:Nat}(hi:i<l.length):ao (l.take (i+1))=ao (l.take i)+cP l[i]:=by
 have e:l.take (i+1)=l.take i++[l[i]]:=by rw[List.take_add_one,List.getElem?_eq_getElem hi];rfl
 have h:∀(a b:List an),ao (a++b)=ao a+ao b:=λa b=>by
  induction a with
  |nil=>simp[ao]
  |cons c a ih=>simp only[List.cons_append,ao,ih];omega
 rw[e,h];simp[ao]
theorem qT(l:List an)(i:Nat):ao (l.take i)<=ao l:=by
 have h:∀(a b:List an),ao (a++b)=ao a+ao b:=λa b=>by
  induction a with
  |nil=>simp[ao]
  |cons c a ih=>simp only[List.cons_append,ao,ih];omega
 have:=h (l.take i) (l.drop i)
 rw[List.take_append_drop]at this
 omega
theorem UD{es:List av}{c:an}(hl:iq c){b r:List az.Bind}(h:r∈zT es c b):r.length<=b.length+100*cP c:=by
 obtain⟨_,l1,l2,_⟩:=(im c).1 hl
 have hs:1<=cP c:=by rw[cT];omega
 rw[rX]at h
 split at h
 ·obtain⟨⟨e,r'⟩,hx,rfl⟩:=List.mem_map.1 h
  unfold bf at hx
  obtain⟨e',_,he⟩:=List.mem_filterMap.1 hx
  cases hc:dx c e' b with
  |none=>rw[hc]at he;cases he
  |some q=>
   rw[hc]at he
   simp only[Option.map_some,Option.some.injEq,Prod.mk.injEq]at he
   have:=BB hc
   obtain⟨rfl,rfl⟩:=he
   show q.length<=_
   omega
 ·split at h
  ·split at h
   ·simp only[List.mem_singleton]at h;subst h;omega
   ·cases h
  ·split at h
   ·simp only[List.mem_singleton]at h;subst h;omega
   ·cases h
theorem OI{es:List av}(hu:es.Pairwise λa b=>a.tag≠b.tag){c:an}{ts:List NJ}(h:ts.Pairwise λa b=>a.tags≠b.tags):(stepT es c ts).Pairwise λa b=>a.tags≠b.tags:=by
 unfold stepT
 split
 ·rw[List.pairwise_flatMap]
  refine⟨λt ht=>?_,h.imp λ{a b} MG x hx y hy e=>?_⟩
  ·rw[List.pairwise_map]
   unfold bf
   refine List.Pairwise.filterMap _ (R:=λa b:av=>a.tag≠b.tag) (λa a' haa b hb b' jO e=>?_) hu
   have e1:b.1=a:=by
    cases hc:dx c a t.binds with
    |none=>rw[hc]at hb;cases hb
    |some q=>rw[hc]at hb;simp only[Option.map_some,Option.some.injEq]at hb;rw[<- hb]
   have e2:b'.1=a':=by
    cases hc:dx c a' t.binds with
    |none=>rw[hc]at jO;cases jO
    |some q=>rw[hc]at jO;simp only[Option.map_some,Option.some.injEq]at jO;rw[<- jO]
   have:=List.append_inj_right' e rfl
   simp only[List.cons.injEq,and_true]at this
   rw[e1,e2]at this
   exact haa this
  ·obtain⟨x',_,rfl⟩:=List.mem_map.1 hx
   obtain⟨y',_,rfl⟩:=List.mem_map.1 hy
   exact MG (List.append_inj_left' e rfl)
 ·exact h.filter _
theorem Oh{es:List av}(hu:es.Pairwise λa b=>a.tag≠b.tag)(p:Path):(AJ es p).Pairwise λa b=>a.tags≠b.tags:=by
 have key:∀(p:Path) (ts:List NJ),(ts.Pairwise λa b=>a.tags≠b.tags)->(p.foldl (λts c=>stepT es c ts) ts).Pairwise λa b=>a.tags≠b.tags:=by
  intro p
  induction p with
  |nil=>intro ts h;exact h
  |cons c p ih=>intro ts h;exact ih _ (OI hu h)
 exact key p _ (List.pairwise_singleton _ _)
theorem fG:kQ bz:=⟨xQ,xR,vV⟩
structure Mt where
 name:ByteArray
 tags:List Int
@[reducible] def Mt.pv(m:Mt):List PV:=[pS m.name,.list 1 .sh (m.tags.map dU)]
mutual
def L_:an->Prop
 | .mk k g i a v ac cs=>iq (.mk k g i a v ac cs)/\((k=1\/k=2)->i≠⟨#[]⟩)/\uW cs
def uW:List an->Prop
 |[]=>True
 |c::cs=>L_ c/\uW cs
end
theorem xo(c:an):L_ c↔iq c/\((c.kind=1\/c.kind=2)->c.id≠⟨#[]⟩)/\uW c.conds:=by cases c;rfl
theorem EE{l:List an}:uW l↔∀c∈l,L_ c:=by
 induction l with
 |nil=>simp[uW]
 |cons c l ih=>simp[uW,ih]
theorem Ho{l:List an}(h:uW l):dT l:=mA.2 λc hc=>((xo c).1 (EE.1 h c hc)).1
theorem xM{p:Prod}(h:(dz p).2=0):∀x∈dR p.conds 0 0,bU x.2.2 x.2.1=0:=by
 unfold dz at h
 cases hw:ku p.name with
 |false=>rw[hw]at h;simp at h
 |true=>
  rw[hw]at h
  simp only[Bool.not_true,cond_false]at h
  cases hb:(decide (ao p.conds<1)||(decide (16<ao p.conds)||(decide (p.dW.length<1)||decide (16<p.dW.length))))with
  |true=>rw[hb]at h;simp at h
  |false=>
   rw[hb]at h
   simp only[cond_false]at h
   refine wB ?_
   unfold kT at h
   split at h
   ·rename_i a e he
    exact absurd h (Bx he)
   ·assumption
theorem QY{c:an}{d:Int}(h:bU c d=0)(hk:c.kind=1\/c.kind=2):c.id≠⟨#[]⟩:=by
 unfold bU at h
 have h3:(c.kind == 3)=false:=by rcases hk with e|e<;>rw[e]<;>rfl
 have wv:((c.kind == 1)||(c.kind == 2))=true:=by rcases hk with e|e<;>rw[e]<;>rfl
 rw[h3,wv]at h
 simp only[cond_true,cond_false]at h
 cases hb:(decide (0<c.conds.length)||(!ku c.id||decide (c.attr.length=0)))with
 |true=>rw[hb]at h;simp at h
 |false=>
  simp only[Bool.or_eq_false_iff,Bool.not_eq_false']at hb
  exact SU hb.2.1
mutual
theorem Pm:∀(c:an) (a d:Nat),iq c->(∀x∈ni c a d,bU x.2.2 x.2.1=0)->L_ c
 | .mk k g i at_ v ac cs,a,d,hl,h=>by
   have h0:=h (a,d,.mk k g i at_ v ac cs) (by simp[ni])
   exact⟨hl,λhk=>QY h0 hk,yg cs (a+1) (d+1) ((im _).1 hl).2.2.2.2.2 λx hx=>h x (by simp[ni,hx])⟩
theorem yg:∀(l:List an) (a d:Nat),dT l->(∀x∈dR l a d,bU x.2.2 x.2.1=0)->uW l
 |[],_,_,_,_=>trivial
 |c::cs,a,d,hl,h=>⟨Pm c a d hl.1 λx hx=>h x (by simp[dR,hx]),yg cs (a+cP c) d hl.2 λx hx=>h x (by simp[dR,hx])⟩
end
structure Gm(p:Prod):Prop where
 chk:(cJ p).2.1=0
 adm:dT p.conds
theorem Gm.facts{p:Prod}(h:Gm p):uW p.conds/\xp p.conds/\1<=ao p.conds/\ao p.conds<=16/\p.dW.length<=16/\p.conds≠[]/\p.conds.length<=16:=by
 have h1:=(BC h.chk).1
 obtain⟨s1,s2,_,s3,s4⟩:=AQ h1
 have:=gk p.conds
 exact⟨yg _ 0 0 h.adm (xM h1),s4,s1,s2,s3,λe=>by rw[e]at s1;simp[ao]at s1,by omega⟩
def Pk(B:Int)(es:List av)(l:List an):Prop:=∃(i:Nat) (h:i<l.length) (j:Nat),B<((US es l[i] (AJ es (l.take i)) j:Nat):Int)
theorem Mi{α:Type}{l:List α}{k:Nat}(hk:k<l.length){a:α}:a∈l.take (k+1)↔a∈l.take k\/a=l[k]:=by
 rw[List.take_add_one,List.getElem?_eq_getElem hk,List.mem_append];simp
def QZ(es:List av)(c:an)(ts:List NJ):List Nat:=(List.range (cP c)).map λj=>US es c ts j
def NN:an:=.mk 0 false ⟨#[]⟩ [] [] false []
def PO(p:Path):an:=p.getLast?.getD NN
@[simp] theorem HT(p:Path)(c:an):PO (p++[c])=c:=by simp[PO]
def Q_(es:List av)(p:Path):List Nat:=if p=[]then[]else QZ es (PO p) (AJ es p.dropLast)
theorem IB(es:List av)(p:Path)(c:an):Q_ es (p++[c])=QZ es c (AJ es p):=by
 unfold Q_;rw[if_neg (by simp),HT,List.dropLast_concat]
def Db(es:List av)(l:List an):List Nat:=(List.range l.length).flatMap λi=>Q_ es (l.take (i+1))
def lP(l:List Nat):Nat:=l.foldl max 0
theorem foldl_max(l:List Nat)(a:Nat):l.foldl max a=max a (lP l):=by
 unfold lP
 induction l generalizing a with
 |nil=>simp
 |cons b l ih=>simp only[List.foldl_cons];rw[ih (max a b),ih (max 0 b)];omega
theorem we(a b:List Nat):lP (a++b)=max (lP a) (lP b):=by
 conv=>lhs;unfold lP
 rw[List.foldl_append,foldl_max];rfl
theorem PF(a:Nat):lP [a]=a:=by simp[lP]
theorem TW{l:List Nat}{b:Nat}(h:∀x∈l,x<=b):lP l<=b:=by
 induction l with
 |nil=>simp[lP]
 |cons a l ih=>
  have h1:=h a (by simp)
  have h2:=ih λx hx=>h x (by simp[hx])
  have:lP (a::l)=max (lP [a]) (lP l):=we [a] l
  rw[this,PF];omega
def XI(cv:Nat->Nat)(k v:Nat):Nat->Nat:=λi=>if i=k then v else cv i
theorem Ra(N:Nat)(cv:Nat->Nat):∀r∈(List.range N).map λi=>[pI ((cv i:Nat):Int)],r.length=1:=λr hr=>by
 obtain⟨i,_,rfl⟩:=List.mem_map.1 hr;rfl
theorem ZY{N k v:Nat}{cv:Nat->Nat}(hk:k<N):((List.range N).map λi=>[pI ((cv i:Nat):Int)]).set k [pI ((v:Nat):Int)]=(List.range N).map λi=>[pI ((XI cv k v i:Nat):Int)]:=by
 refine List.ext_getElem (by simp) λi h1 h2=>?_
 simp only[List.length_map,List.length_range]at h2
 rw[List.getElem_set]
 simp only[List.getElem_map,List.getElem_range,XI]
 by_cases e:k=i
 ·rw[if_pos e,if_pos e.symm]
 ·rw[if_neg e,if_neg (Ne.symm e)]
theorem XZ(a:Nat)(es:List av)(r:List (List az.Bind))(j:Nat):sh a (cL es [] r) j=0:=by unfold sh;split<;>rfl
structure cA where
 tags:List Int
 binds:List az.Bind
 at_:Int
@[reducible] def cA.pv(t:cA):List PV:=[.list 1 .sh (t.tags.map dU),.list 4 .sh (t.binds.map Bind.pv),pI t.at_]
def cA.tok(t:cA):NJ:=⟨t.tags,t.binds⟩
def iY(ts:List cA):List (List az.Bind):=ts.map cA.binds
def aW(es:List av)(c:an)(ts:List cA):List cA:=
 if c.kind=1 then ts.flatMap λt=>(bf c t.binds es).map λx=>⟨t.tags++[x.1.tag],x.2,t.at_⟩else ts.filter λt=> !(zT es c t.binds).isEmpty
def aH(es:List av)(l:List an)(ts:List cA):List cA:=l.foldl (λts c=>aW es c ts) ts
theorem pN(es:List av)(c:an)(a b:List cA):aW es c (a++b)=aW es c a++aW es c b:=by
 unfold aW;split
 ·rw[List.flatMap_append]
 ·rw[List.filter_append]
theorem rA(es:List av):∀(l:List an) (a b:List cA),aH es l (a++b)=aH es l a++aH es l b
 |[],_,_=>rfl
 |c::l,a,b=>by
  show aH es l (aW es c (a++b))=aH es l (aW es c a)++aH es l (aW es c b)
  rw[pN];exact rA es l _ _
theorem Ec(es:List av)(l:List an)(c:an)(ts:List cA):aH es (l++[c]) ts=aW es c (aH es l ts):=by unfold aH;rw[List.foldl_append];rfl
theorem kA{es:List av}{l:List an}{i:Nat}(hi:i<l.length)(ts:List cA):aH es (l.take (i+1)) ts=aW es l[i] (aH es (l.take i) ts):=by
 have e:l.take (i+1)=l.take i++[l[i]]:=by rw[List.take_add_one,List.getElem?_eq_getElem hi];rfl
 rw[e,Ec]
theorem UB{es:List av}{c:an}(hk:c.kind≠1)(b:List az.Bind):zT es c b=if(zT es c b).isEmpty then[]else[b]:=by
 rw[rX,if_neg hk]
 repeat' split
 all_goals first|rfl|simp_all
theorem nS(es:List av)(c:an)(ts:List cA):iY (aW es c ts)=(iY ts).flatMap λb=>zT es c b:=by
 induction ts with
 |nil=>unfold aW iY;simp
 |cons t ts ih=>
  have e:t::ts=[t]++ts:=rfl
  rw[e,pN]
  unfold iY at ih |-
  rw[List.map_append,ih,List.map_append,List.flatMap_append]
  congr 1
  unfold aW
  by_cases hk:c.kind=1
  ·rw[if_pos hk]
   simp only[List.flatMap_cons,List.flatMap_nil,List.append_nil,List.map_map,List.map_cons,List.map_nil]
   rw[rX,if_pos hk];rfl
  ·rw[if_neg hk]
   simp only[List.map_cons,List.map_nil,List.flatMap_cons,List.flatMap_nil,List.append_nil,List.filter_cons,List.filter_nil]
   rw[UB hk t.binds]
   split<;>split<;>simp_all
theorem eX(es:List av):∀(l:List an) (ts:List cA),iY (aH es l ts)=vY es l (iY ts)
 |[],_=>rfl
 |c::l,ts=>by
  show iY (aH es l (aW es c ts))=_
  rw[eX es l,nS];rfl
theorem Lz(es:List av)(c:an)(ts:List cA):(aW es c ts).map cA.tok=stepT es c (ts.map cA.tok):=by
 unfold aW stepT
 by_cases hk:c.kind=1
 ·rw[if_pos hk,if_pos hk,List.map_flatMap,List.flatMap_map]
  congr 1;funext t
  rw[List.map_map];rfl
 ·rw[if_neg hk,if_neg hk,List.filter_map];rfl
theorem xH(es:List av):∀(l:List an) (ts:List cA),(aH es l ts).map cA.tok=l.foldl (λts c=>stepT es c ts) (ts.map cA.tok)
 |[],_=>rfl
 |c::l,ts=>by
  show(aH es l (aW es c ts)).map _=_
  rw[xH es l,Lz];rfl
def nX:cA:=⟨[],[],0⟩
theorem vO(es:List av)(l:List an):(aH es l [nX]).map cA.tok=AJ es l:=xH es l _
theorem OJ{es:List av}{c:an}{ts:List cA}{i:Int}(h:∀t∈ts,t.at_=i):∀t∈aW es c ts,t.at_=i:=by
 intro t ht
 unfold aW at ht
 split at ht
 ·obtain⟨t',h1,h2⟩:=List.mem_flatMap.1 ht
  obtain⟨x,_,rfl⟩:=List.mem_map.1 h2
  exact h t' h1
 ·exact h t (List.mem_filter.1 ht).1
theorem AN{es:List av}:∀{l:List an} {ts:List cA} {i:Int},(∀t∈ts,t.at_=i)->∀t∈aH es l ts,t.at_=i
 |[],_,_,h=>h
 |c::l,ts,i,h=>AN (l:=l) (OJ h)
def mD(k:Nat):List cA->List cA
 |[]=>[]
 |t::ts=>⟨[],t.binds,(k:Nat)⟩::mD (k+1) ts
theorem mC:∀(k:Nat) (ts:List cA),iY (mD k ts)=iY ts
 |_,[]=>rfl
 |k,t::ts=>by
  have:=mC (k+1) ts
  unfold iY at this |-
  simp only[mD,List.map_cons,this]
theorem yG:∀(k:Nat) (ts:List cA),(mD k ts).length=ts.length
 |_,[]=>rfl
 |k,t::ts=>by simp only[mD,List.length_cons,yG (k+1) ts]
theorem CM:∀(k:Nat) (ts:List cA),∀t∈mD k ts,((k:Nat):Int)<=t.at_/\t.tags=[]
 |_,[],_,h=>by simp[mD]at h
 |k,t::ts,x,h=>by
  simp only[mD,List.mem_cons]at h
  rcases h with rfl|h
  ·exact⟨Int.le_refl _,rfl⟩
  ·have:=CM (k+1) ts x h
   exact⟨by omega,this.2⟩
def Bq(l:List cA)(i:Int):Bool:=l.any λt=>t.at_ == i
theorem yM(es:List av)(l:List an):∀(ts:List cA) (k i:Nat) (h:i<ts.length),Bq (aH es l (mD k ts)) ((k+i:Nat):Int)= !(vY es l [ts[i].binds]).isEmpty
 |[],_,_,h=>by simp at h
 |t::ts,k,i,h=>by
  have e:mD k (t::ts)=[⟨[],t.binds,(k:Nat)⟩]++mD (k+1) ts:=rfl
  have h1:∀x∈aH es l [(⟨[],t.binds,(k:Nat)⟩:cA)],x.at_=(k:Nat):=AN (by simp)
  have GF:∀(l:List an) (k:Nat) (us:List cA),(∀t∈us,((k:Nat):Int)<=t.at_)->∀t∈aH es l us,((k:Nat):Int)<=t.at_:=by
   intro l k
   induction l with
   |nil=>intro us h;exact h
   |cons c l ih=>
    intro us h
    refine ih _ λt ht=>?_
    have ht:t∈aW es c us:=ht
    unfold aW at ht
    split at ht
    ·obtain⟨t',h1,h2⟩:=List.mem_flatMap.1 ht
     obtain⟨x,_,rfl⟩:=List.mem_map.1 h2
     exact h t' h1
    ·exact h t (List.mem_filter.1 ht).1
  rw[e,rA]
  unfold Bq
  rw[List.any_append]
  cases i with
  |zero=>
   have h2:(aH es l (mD (k+1) ts)).any (λt=>t.at_ == ((k+0:Nat):Int))=false:=by
    rw[List.any_eq_false]
    intro x hx
    have:=GF l (k+1) _ (λt ht=>(CM (k+1) ts t ht).1) x hx
    simp only[beq_iff_eq];omega
   rw[h2,Bool.or_false]
   have h3:=eX es l [(⟨[],t.binds,(k:Nat)⟩:cA)]
   have h4:iY [(⟨[],t.binds,(k:Nat)⟩:cA)]=[t.binds]:=rfl
   rw[h4]at h3
   simp only[List.getElem_cons_zero]
   rw[<- h3]
   cases hs:aH es l [(⟨[],t.binds,(k:Nat)⟩:cA)]with
   |nil=>rfl
   |cons x r=>
    rw[hs]at h1
    have:=h1 x (by simp)
    simp[iY,this]
  |succ i=>
   have h2:(aH es l [(⟨[],t.binds,(k:Nat)⟩:cA)]).any (λt=>t.at_ == ((k+(i+1):Nat):Int))=false:=by
    rw[List.any_eq_false]
    intro x hx
    have:=h1 x hx
    simp only[beq_iff_eq];omega
   rw[h2,Bool.false_or]
   have:=yM es l ts (k+1) i (by simpa using h)
   unfold Bq at this
   rw[show k+(i+1)=k+1+i from by omega,this]
   rfl
theorem D_{α β:Type}(f:β->Nat)(g:α->List β):∀l:List α,((l.flatMap g).map f).sum=(l.map λa=>((g a).map f).sum).sum
 |[]=>rfl
 |x::l=>by rw[List.flatMap_cons,List.map_append,List.sum_append,D_ f g l];rfl
theorem Dg(es:List av):∀(cs:List an) (rows:List (List az.Bind)) (j:Nat),cL es cs rows j=(rows.map λb=>cL es cs [b] j).sum
 |[],rows,j=>by simp only[cL];induction rows with
  |nil=>rfl
  |cons b rows ih=>simp only[List.map_cons,List.sum_cons,<- ih]
 |c::cs,rows,j=>by
  simp only[cL]
  by_cases h:j<cP c
  ·simp only[if_pos h,List.map_cons,List.map_nil,List.sum_cons,List.sum_nil,Nat.add_zero]
  ·simp only[if_neg h]
   rw[Dg es cs,D_]
   congr 1
   refine List.map_congr_left λb _=>?_
   rw[Dg es cs ([b].flatMap _)]
   simp
theorem LC{es:List av}{c:an}{ts:List cA}(hk:c.kind≠1):(aW es c ts).length<=ts.length:=by
 unfold aW;rw[if_neg hk];exact List.length_filter_le _ _
theorem LD(es:List av)(c:an)(ts:List cA):(aW es c ts).length=((iY ts).flatMap λb=>zT es c b).length:=by
 rw[<- nS];unfold iY;simp
theorem rz{es:List av}{l:List an}{i:Nat}(hi:i<l.length)(ts:List cA):(aH es (l.take (i+1)) ts).length=gT es l[i] (vY es (l.take i) (iY ts)) 0:=by
 rw[kA hi,LD,eX,Lx]
theorem xJ{es:List av}{c:an}{ts:List cA}{m:Nat}(h:∀t∈ts,t.tags.length<=m):∀t∈aW es c ts,t.tags.length<=m+1:=by
 intro t ht
 unfold aW at ht
 split at ht
 ·obtain⟨t',h1,h2⟩:=List.mem_flatMap.1 ht
  obtain⟨x,_,rfl⟩:=List.mem_map.1 h2
  have:=h t' h1
  simp;omega
 ·exact Nat.le_succ_of_le (h t (List.mem_filter.1 ht).1)
theorem nQ{es:List av}:∀{l:List an} {ts:List cA} {m:Nat},(∀t∈ts,t.tags.length<=m)->∀t∈aH es l ts,t.tags.length<=m+l.length
 |[],_,_,h=>h
 |c::l,ts,m,h=>λt ht=>by
  have:=nQ (l:=l) (xJ h) t ht
  simp only[List.length_cons];omega
theorem nM(es:List av)(l:List an):(AJ es l).map NJ.binds=vY es l [[]]:=by
 have h1:=vO es l
 have h2:=eX es l [nX]
 rw[<- h1,List.map_map];exact h2
theorem zd(es:List av)(c:an)(ts:List NJ)(j:Nat):US es c ts j=gT es c (ts.map NJ.binds) j:=by
 unfold US gT;rw[List.map_map];rfl
theorem Dh(es:List av)(B:Int):∀(l:List an) (rows:List (List az.Bind)),(∃j,B<((cL es l rows j:Nat):Int))↔B<0\/∃(i:Nat) (h:i<l.length) (j:Nat),B<((gT es l[i] (vY es (l.take i) rows) j:Nat):Int)
 |[],rows=>by
  constructor
  ·rintro⟨j,h⟩;simp only[cL]at h;exact .inl h
  ·rintro(h|⟨i,h,_⟩)
   ·exact⟨0,h⟩
   ·simp at h
 |c::cs,rows=>by
  have ih:=Dh es B cs (rows.flatMap λb=>zT es c b)
  constructor
  ·rintro⟨j,h⟩
   simp only[cL]at h
   by_cases hj:j<cP c
   ·rw[if_pos hj]at h;exact .inr ⟨0,by simp,j,h⟩
   ·rw[if_neg hj]at h
    rcases ih.1 ⟨_,h⟩with h|⟨i,hi,j',h⟩
    ·exact .inl h
    ·exact .inr ⟨i+1,by simpa using hi,j',h⟩
  ·rintro(h|⟨i,hi,j,h⟩)
   ·exact⟨0,by omega⟩
   ·cases i with
    |zero=>
     by_cases hj:j<cP c
     ·refine⟨j,?_⟩
      simp only[cL];rw[if_pos hj];exact h
     ·have:gT es c rows j=0:=Ea es c rows (by omega)
      simp only[List.getElem_cons_zero,List.take_zero,vY]at h
      rw[this]at h
      exact⟨0,by omega⟩
    |succ i=>
     obtain⟨j',h'⟩:=ih.2 (.inr ⟨i,by simpa using hi,j,h⟩)
     refine⟨cP c+j',?_⟩
     simp only[cL];rw[if_neg (by omega),Nat.add_sub_cancel_left];exact h'
theorem JY{es:List av}{B:Int}(hB:0<=B)(l:List an):(∃j,B<((cL es l [[]] j:Nat):Int))↔Pk B es l:=by
 rw[Dh]
 constructor
 ·rintro(h|⟨i,hi,j,h⟩)
  ·omega
  ·exact⟨i,hi,j,by rw[zd,nM];exact h⟩
 ·rintro⟨i,hi,j,h⟩
  exact .inr ⟨i,hi,j,by rw[zd,nM]at h;exact h⟩
theorem Et(f:Nat->Nat)(a b:Nat):(List.range (a+b)).map f=(List.range a).map f++(List.range b).map λj=>f (a+j):=by
 rw[List.range_add,List.map_append,List.map_map];rfl
theorem KU(es:List av):∀(l:List an) (rows:List (List az.Bind)),(List.range (ao l)).map (cL es l rows)=(List.range l.length).flatMap λi=>(List.range (cP (l[i]?.getD NN))).map (gT es (l[i]?.getD NN) (vY es (l.take i) rows))
 |[],_=>rfl
 |c::cs,rows=>by
  have ih:=KU es cs (rows.flatMap λb=>zT es c b)
  simp only[ao,List.length_cons]
  rw[Et,List.range_succ_eq_map,List.flatMap_cons,List.flatMap_map]
  congr 1
  ·refine List.map_congr_left λj hj=>?_
   have hj:=List.mem_range.1 hj
   simp only[cL];rw[if_pos hj];rfl
  ·have e:(λj=>cL es (c::cs) rows (cP c+j))=cL es cs (rows.flatMap λb=>zT es c b):=by
    funext j
    simp only[cL];rw[if_neg (by omega),Nat.add_sub_cancel_left]
   rw[e,ih]
   rfl
theorem IC(es:List av)(l:List an):Db es l=(List.range (ao l)).map (cL es l [[]]):=by
 rw[KU]
 unfold Db
 rw[List.flatMap_def,List.flatMap_def]
 congr 1
 refine List.map_congr_left λi hi=>?_
 have hi:=List.mem_range.1 hi
 have e:l.take (i+1)=l.take i++[l[i]]:=by rw[List.take_add_one,List.getElem?_eq_getElem hi];rfl
 rw[e,IB,List.getElem?_eq_getElem hi]
 unfold QZ
 refine List.map_congr_left λj _=>?_
 rw[zd,nM];rfl
theorem Mj{l:List Nat}(h:∀x∈l,x=0):lP l=0:=Nat.le_zero.1 (TW λx hx=>Nat.le_of_eq (h x hx))
theorem HP{f:Nat->Nat}{N M:Nat}(hN:∀j,N<=j->f j=0)(hM:∀j,M<=j->f j=0):lP ((List.range N).map f)=lP ((List.range M).map f):=by
 have key:∀{N M:Nat},N<=M->(∀j,N<=j->f j=0)->lP ((List.range M).map f)=lP ((List.range N).map f):=λ{N M} h h0=>by
  obtain⟨k,rfl⟩:∃k,M=N+k:=⟨M-N,by omega⟩
  rw[Et,we,Mj (l:=(List.range k).map _)]
  ·omega
  ·intro x hx
   obtain⟨j,_,rfl⟩:=List.mem_map.1 hx
   exact h0 _ (by omega)
 rcases Nat.le_total N M with h|h
 ·exact(key h hN).symm
 ·exact key h hM
theorem YV{T:Type}{key:T->List Int}{L:List T}(hu:dh bz key L){x:T}{i:Nat}(hi:i<=L.length)(hx:∀y∈L,key y≠key x)(h1:∀(j:Nat) (h:j<L.length),i<=j->bz (key x) (key L[j])<0)(h0:i=0\/∃h:i-1<L.length,¬bz (key x) (key L[i-1])<0):L.take i++x::L.drop i=eu bz key x L:=by
 have Uq:∀(j:Nat) (h:j<L.length),j<i->bz (key L[j]) (key x)<0:=λj h hj=>by
  rcases h0 with h0|⟨hl,h0⟩
  ·omega
  ·have e1:bz (key L[i-1]) (key x)<0:=by
    have:=(fG.flip (key L[i-1]) (key x))
    have hz:bz (key L[i-1]) (key x)≠0:=λe=>hx _ (List.getElem_mem hl) ((fG.zero _ _).1 e)
    have hz2:bz (key x) (key L[i-1])≠0:=λe=>hx _ (List.getElem_mem hl) ((fG.zero _ _).1 e).symm
    omega
   by_cases e:j=i-1
   ·subst e;exact e1
   ·have:=List.pairwise_iff_getElem.1 hu j (i-1) h hl (by omega)
    exact fG.trans _ _ _ this e1
 have Wy:∀(j:Nat) (h:j<L.length),i<=j->0<bz (key L[j]) (key x):=λj h hj=>by
  have:=h1 j h hj
  have:=fG.flip (key x) (key L[j])
  omega
 unfold eu
 rw[oT (k:=i) hi (λj h hj=>by simp[CG,Uq j h hj]) (λj h hj=>by have:=Wy j h hj;simp[CG];omega),
  wC (k:=i) hi (λj h hj=>by have:=Uq j h hj;simp[Il];omega) (λj h hj=>by simp[Il,Wy j h hj])]
theorem Rv(rel:Int)(a b:Sym):Pure prog 377 [pI rel,.agg a.pv,.agg b.pv] (pB (holds rel a b)):=by
 refine ax.of (Ds.c ?_)
 refine⟨λs u=>s=(a.k == 2&&b.k == 2),?_,?_⟩
 ·exact ae.mk (λh=>by simp[h]) (λh=>by simp[h])
 ·rintro s u rfl
  repeat' (refine ae.mk (λh=>?_) (λh=>?_))
  all_goals simp_all [holds,bE,wk,cu]
@[reducible] def aez:Option Sym->PV
 |some s=>.aC [.agg s.pv,pB true]
 |none=>.aC [.agg [pI 0,pS ⟨#[]⟩,pI 0],pB false]
theorem Ar(fl:Fl)(l:List az.Bind)(hn:l.length<=1000000)(v:ByteArray):Pure prog 378 [.list 4 fl (l.map Bind.pv),pS v] (aez (iN l v)):=by
 refine ax.of (Jp.c ?_)
 refine aj.each (n:=l.length) (by omega) (λk u=>iN (l.take k) v=none) (by simp[iN]) ?_ ?_
 ·intro k u next hk hg ar
  refine ae.t (by simpa using hk) ⟨by omega,_,aI hk,_,_,_,_,rfl,ae.mk (λhe=>?_) (λhe=>?_)⟩
  ·rw[FC hk hg he];rfl
  ·exact ar _ (by rw[vh hk hg,he];rfl)
 ·intro u next hg
  refine ae.f (by simp) ?_
  rw[List.take_length]at hg
  rw[hg];rfl
@[reducible] def al7:Option (List az.Bind)->PV
 |some l=>.aC [.list 4 .sh (l.map Bind.pv),pB true]
 |none=>.aC [.list 4 .sh [],pB false]
def vM(o:Option (List az.Bind))(p:PV):Prop:=∃l:List az.Bind,p=.aC [.list 4 .sh (l.map Bind.pv),pB o.isSome]/\∀l',o=some l'->l=l'
theorem Rt(fl:Fl)(t:Test)(s:Sym)(l:List az.Bind)(hn:l.length<=1000000)(ht:t.list.length<=1000000):ax prog 309 [.agg t.pv,.agg s.pv,.list 4 fl (l.map Bind.pv)] (vM (met t s l)):=by
 refine ax.of (Jn.c ?_)
 have no:met t s l=none->vM (met t s l) (wk (.aC [.list 4 .nil [],pB false])):=λh=>⟨[],by rw[h];rfl,λl' e=>by rw[h]at e;cases e⟩
 have yes:∀{q:Bool},met t s l=(if q=true then some l else none)->vM (met t s l) (wk (.aC [.list 4 fl (l.map Bind.pv),pB q])):=λ{q} h=>by
  rw[h]
  cases q
  ·exact⟨l,rfl,λl' e=>by cases e⟩
  ·exact⟨l,rfl,λl' e=>by cases e;rfl⟩
 refine ae.mk (λh8=>?_) (λh8=>?_)
 ·have h8:t.rel=8:=by simpa using h8
  have hm:met t s l=if t.list.any (λx=>bE x s)=true then some l else none:=by rw[met,if_pos h8]
  refine aj.each (n:=t.list.length) (by omega) (λk u=>(t.list.take k).any (λx=>bE x s)=false) (by simp) ?_ ?_
  ·intro k u next hk hg ar
   refine ae.t (by simpa using hk) ⟨by omega,_,aI hk,_,_,_,rfl,ae.mk (λhe=>?_) (λhe=>?_)⟩
   ·exact yes (q:=true) (by rw[hm,Ja (p:=λx=>bE x s) hk he])
   ·exact ar _ (by rw[zr hk hg];exact he)
  ·intro u next hg
   refine ae.f (by simp) (no ?_)
   rw[List.take_length]at hg
   rw[hm,hg];rfl
 ·have h8:¬t.rel=8:=by simpa using h8
  refine ae.mk (λh1=>no ?_) (λh1=>?_)
  ·rw[met,if_neg h8,if_pos (.inl (by simpa using h1))]
  ·refine ae.mk (λh7=>no ?_) (λh7=>?_)
   ·rw[met,if_neg h8,if_pos (.inr (by simpa using h7))]
   ·have hr:¬(t.rel<1\/t.rel>7):=by simp at h1 h7;omega
    refine ae.mk (λhv=>?_) (λhv=>?_)
    ·refine(Rv t.rel s t.sym).call ⟨_,rfl,yes ?_⟩
     rw[met,if_neg h8,if_neg hr,if_pos (cf.1 hv)]
    ·have hv:¬t.var=⟨#[]⟩:=nO.1 hv
     refine(Ar fl l hn t.var).call ?_
     cases hg:iN l t.var with
     |some x=>
      refine⟨_,_,_,_,rfl,ae.t rfl ((Rv t.rel s x).call ⟨_,rfl,yes ?_⟩)⟩
      rw[met,if_neg h8,if_neg hr,if_neg hv,hg]
     |none=>
      refine⟨_,_,_,_,rfl,ae.f rfl (ae.mk (λh1=>no ?_) (λh1=>?_))⟩
      ·have h1:¬t.rel=1:=by simpa using h1
       rw[met,if_neg h8,if_neg hr,if_neg hv,hg];simp[h1]
      ·have h1:t.rel=1:=by simpa using h1
       refine⟨by omega,by omega,by omega,rfl,?_⟩
       simp only[Int.toNat_zero,Int.toNat_natCast,List.take_length,List.drop_zero]
       refine bF.go1 (by trivial) (by simp;omega) (by simp;omega) λiD μ' _=>⟨l++[⟨t.var,s⟩],?_,λl' e=>?_⟩
       ·rw[met,if_neg h8,if_neg hr,if_neg hv,hg];simp[h1,wk,cu,zM]
       ·rw[met,if_neg h8,if_neg hr,if_neg hv,hg]at e;simp[h1]at e;exact e
theorem IP(fl iD:Fl)(ts:List Test)(s:Sym)(l:List az.Bind)(hn:l.length+ts.length<=1000000)(ht:∀t∈ts,t.list.length<=1000000):ax prog 310 [.list 6 fl (ts.map Test.pv),.agg s.pv,.list 4 iD (l.map Bind.pv)] (vM (gN ts s l)):=by
 refine ax.of (Jo.c ?_)
 refine aj.ed (n:=ts.length) (by omega) (λk x u=>∃lk,gN (ts.take k) s l=some lk/\x.2=lk.map Bind.pv) ⟨l,rfl,rfl⟩ ?_ ?_
 ·rintro k ⟨xf,xr⟩ u next hk ⟨lk,CP,rfl⟩ ar
  have MA:=lZ CP
  rw[List.length_take]at MA
  refine ae.t (by simpa using hk) ⟨by omega,_,aI hk,_,_,_,_,_,_,_,rfl,?_⟩
  refine(Rt xf ts[k] s lk (by omega) (ht _ (List.getElem_mem hk))).call ?_
  rintro _ ⟨l',rfl,Wt⟩
  refine⟨_,_,_,rfl,?_⟩
  cases hm:met ts[k] s lk with
  |none=>
   refine ae.t rfl ⟨[],?_,λl2 e=>?_⟩
   ·rw[vw (k+1) (by rw[qn hk CP,hm])];rfl
   ·rw[vw (k+1) (by rw[qn hk CP,hm])]at e;cases e
  |some l2=>
   have:=Wt l2 hm
   subst this
   exact ae.f rfl (ar (_,_) _ ⟨l',by rw[qn hk CP,hm],rfl⟩)
 ·rintro⟨xf,xr⟩ u next ⟨lk,CP,rfl⟩
  rw[List.take_length]at CP
  exact ae.f (by simp) ⟨lk,by rw[CP];rfl,λl2 e=>by rw[CP]at e;cases e;rfl⟩
theorem IF(fl:Fl)(l:List az.Bind)(hn:l.length<=2000000):Pure prog 221 [.list 4 fl (l.map Bind.pv)] (.list 4 .sh (l.map Bind.pv)):=by
 refine ax.of (Jm.c ?_)
 exact bF.go1 (by trivial) (by simp;omega) (by simp;omega) λiD μ' _=>rfl
theorem aaG(fa fv fc fl:Fl)(c:an)(e:av)(l:List az.Bind)(hn:l.length+1+c.attr.length+c.value.length<=1000000)(ha:∀t∈c.attr,t.list.length<=1000000)(hv:∀t∈c.value,t.list.length<=1000000):
  Pure prog 223 [.agg [pI c.kind,pB c.goal,pS c.id,.list 6 fa (c.attr.map Test.pv),.list 6 fv (c.value.map Test.pv),pB c.acc,.list 7 fc (c.conds.map an.pv)],.agg e.pv,.list 4 fl (l.map Bind.pv)] (al7 (dx c e l)):=by
 refine ax.of (Gq.c ?_)
 refine⟨λ_ u=>((c.kind=1\/c.kind=2)/\(c.goal=true->e.goal=true)/\c.acc=e.acc),?_,?_⟩
 ·repeat' (refine ae.mk (λh=>?_) (λh=>?_))
  all_goals first
   |(simp_all;done)
   |(rw[dx,if_neg (by simp_all)];rfl)
 ·rintro _ u hc
  rw[dx,if_pos hc]
  refine(Rt fl (rU c.id) e.id l (by omega) (by simp)).call ?_
  rintro _ ⟨l1,rfl,h1⟩
  refine⟨_,_,_,rfl,?_⟩
  cases hm:met (rU c.id) e.id l with
  |none=>exact ae.t rfl rfl
  |some l1'=>
   obtain rfl:=h1 l1' hm
   have g1:=tC hm
   refine ae.f rfl ((IP fa _ c.attr e.attr l1 (by omega) ha).call ?_)
   rintro _ ⟨l2,rfl,h2⟩
   refine⟨_,_,_,rfl,?_⟩
   simp only[Option.bind_some]
   cases lS:gN c.attr e.attr l1 with
   |none=>exact ae.t rfl rfl
   |some l2'=>
    obtain rfl:=h2 l2' lS
    have g2:=lZ lS
    refine ae.f rfl ((IP fv _ c.value e.value l2 (by omega) hv).call ?_)
    rintro _ ⟨l3,rfl,h3⟩
    refine⟨_,_,_,rfl,?_⟩
    simp only[Option.bind_some]
    cases Sr:gN c.value e.value l2 with
    |none=>exact ae.t rfl rfl
    |some l3'=>
     obtain rfl:=h3 l3' Sr
     have g3:=lZ Sr
     exact ae.f rfl ((IF _ l3 (by omega)).call ⟨_,_,rfl,rfl⟩)
theorem U_(rel:Int)(a b:Sym):Pure prog 433 [pI rel,.agg a.pv,.agg b.pv] (pB (holds rel a b)):=by
 refine ax.of (qJ.c ?_)
 refine⟨λs u=>s=(a.k == 2&&b.k == 2),?_,?_⟩
 ·exact ae.mk (λh=>by simp[h]) (λh=>by simp[h])
 ·rintro s u rfl
  repeat' (refine ae.mk (λh=>?_) (λh=>?_))
  all_goals simp_all [holds,bE,wk,cu]
theorem aeO(fl:Fl)(l:List az.Bind)(hn:l.length<=1000000)(v:ByteArray):Pure prog 431 [.list 4 fl (l.map Bind.pv),pS v] (aez (iN l v)):=by
 refine ax.of (uq.c ?_)
 refine aj.each (n:=l.length) (by omega) (λk u=>iN (l.take k) v=none) (by simp[iN]) ?_ ?_
 ·intro k u next hk hg ar
  refine ae.t (by simpa using hk) ⟨by omega,_,aI hk,_,rfl,ae.mk (λhe=>⟨by omega,_,aI hk,_,_,_,rfl,?_⟩) (λhe=>?_)⟩
  ·rw[FC hk hg he];rfl
  ·exact ar _ (by rw[vh hk hg,he];rfl)
 ·intro u next hg
  refine ae.f (by simp) ?_
  rw[List.take_length]at hg
  rw[hg];rfl
theorem aaS{fl:Fl}{new:Lq}{μ:Mem}{size bytes:Nat}{K:Fl->Mem->Prop}(h:fl=.nil)(hb:new.length*bytes<=140737488355328)(nH:new.length<4611686018427387904)(hK:∀iD μ',Ow [m_ iD new.length size] μ'->K iD μ'):bF true size bytes fl [] new μ K:=by
 subst h
 refine bF.go1 (h:=trivial) (by simpa using hb) (by simpa using nH) (λiD μ' h1=>hK iD μ' (Ow.one ?_))
 simpa[m_]using h1
theorem aak(fl:Fl)(l:List az.Bind)(hn:l.length<=1000000)(v:ByteArray)(s:Sym):Pure prog 432 [.list 4 fl (l.map Bind.pv),pS v,.agg s.pv] (.list 4 .sh ((l++[(⟨v,s⟩:az.Bind)]).map Bind.pv)):=by
 refine ax.of (sv.c ?_)
 have go:bF true 4 48 .nil [] (l.map Bind.pv) M0 λf8 u=>bF false 4 48 f8 ([]++l.map Bind.pv) [[pS v,pI s.k,pS s.t,pI s.n]] u λf13 pK=>wk (.list 4 f13 (([]++l.map Bind.pv)++[[pS v,pI s.k,pS s.t,pI s.n]]))=.list 4 .sh ((l++[(⟨v,s⟩:az.Bind)]).map Bind.pv):=
  aaS rfl (by simp;omega) (by simp;omega) λf8 u hO=>Ow.app hO (by simp) (by simp;omega) (by simp;omega) λf13 u1 _=>by simp[wk,cu]
 exact⟨go,go⟩
theorem WX(fl fl2:Fl)(t:Test)(s:Sym)(l:List az.Bind)(hn:l.length<=1000000)(ht:t.list.length<=1000000):ax prog 375 [.agg [pI t.rel,pS t.var,pI t.sym.k,pS t.sym.t,pI t.sym.n,.list 3 fl2 (t.list.map Sym.pv)],.agg s.pv,.list 4 fl (l.map Bind.pv)] (vM (met t s l)):=by
 refine ax.of (uo.c ?_)
 have no:met t s l=none->vM (met t s l) (wk (.aC [.list 4 .nil [],pB false])):=λh=>⟨[],by rw[h];rfl,λl' e=>by rw[h]at e;cases e⟩
 have yes:met t s l=some l->vM (met t s l) (wk (.aC [.list 4 fl (l.map Bind.pv),pB true])):=λh=>⟨l,by rw[h];rfl,λl' e=>by rw[h]at e;cases e;rfl⟩
 refine ae.mk (λh8=>?_) (λh8=>?_)
 ·have h8:t.rel=8:=by simpa using h8
  have hm:met t s l=if t.list.any (λx=>bE x s)=true then some l else none:=by rw[met,if_pos h8]
  refine aj.each (n:=t.list.length) (by omega) (λk u=>(t.list.take k).any (λx=>bE x s)=false) (by simp) ?_ ?_
  ·intro k u next hk hg ar
   refine ae.t (by simpa using hk) ⟨by omega,_,aI hk,_,_,_,rfl,ae.mk (λhe=>?_) (λhe=>?_)⟩
   ·exact yes (by rw[hm,Ja (p:=λx=>bE x s) hk he];rfl)
   ·exact ar _ (by rw[zr hk hg];exact he)
  ·intro u next hg
   rw[List.take_length]at hg
   exact ae.f (by simp) (no (by rw[hm,hg];rfl))
 ·have h8:t.rel≠8:=by simpa using h8
  refine ae.mk (λh1=>?_) (λh1=>ae.mk (λh7=>?_) (λh7=>?_))
  ·have h1:t.rel<1:=by simpa using h1
   exact no (by rw[met,if_neg h8,if_pos (.inl h1)])
  ·have h7:t.rel>7:=by simpa using h7
   exact no (by rw[met,if_neg h8,if_pos (.inr h7)])
  ·have WI:¬(t.rel<1\/t.rel>7):=by simp at h1 h7;omega
   refine⟨λx u=>(t.var=⟨#[]⟩/\(⟨x.1,x.2.1,x.2.2⟩:Sym)=t.sym)\/(t.var≠⟨#[]⟩/\iN l t.var=some ⟨x.1,x.2.1,x.2.2⟩),?_,?_⟩
   ·refine ae.mk (λhv=>?_) (λhv=>.inl ⟨cf.1 (by simpa using hv),rfl⟩)
    have hv:t.var≠⟨#[]⟩:=nO.1 (by simpa using hv)
    refine(aeO fl l hn t.var).call ?_
    cases hg:iN l t.var with
    |some x=>exact⟨_,_,_,_,rfl,ae.f rfl (.inr ⟨hv,rfl⟩)⟩
    |none=>
     refine⟨_,_,_,_,rfl,ae.t rfl (ae.mk (λhr=>?_) (λhr=>?_))⟩
     ·have hr:t.rel≠1:=by simpa using hr
      exact no (by rw[met,if_neg h8,if_neg WI,if_neg hv,hg];exact if_neg hr)
     ·have hr:t.rel=1:=by simpa using hr
      have hm:met t s l=some (l++[⟨t.var,s⟩]):=by rw[met,if_neg h8,if_neg WI,if_neg hv,hg];exact if_pos hr
      refine(aak fl l hn t.var s).call ⟨_,_,rfl,?_⟩
      exact⟨_,by rw[hm];rfl,λl' e=>by rw[hm]at e;cases e;rfl⟩
   ·rintro⟨x1,x2,x3⟩ u hx
    have hm:met t s l=if holds t.rel s ⟨x1,x2,x3⟩=true then some l else none:=by
     rw[met,if_neg h8,if_neg WI]
     rcases hx with⟨hv,e⟩|⟨hv,e⟩
     ·rw[if_pos hv,<- e]
     ·rw[if_neg hv,e]
    refine(U_ t.rel s ⟨x1,x2,x3⟩).call ⟨_,rfl,ae.mk (λh=>?_) (λh=>?_)⟩
    ·exact no (by rw[hm,if_neg (by simpa using h)])
    ·exact yes (by rw[hm,if_pos (by simpa using h)])
theorem FW(fl iD:Fl)(ts:List Test)(s:Sym)(l:List az.Bind)(hn:l.length+ts.length<=1000000)(ht:∀t∈ts,t.list.length<=1000000):ax prog 376 [.list 6 fl (ts.map Test.pv),.agg s.pv,.list 4 iD (l.map Bind.pv)] (vM (gN ts s l)):=by
 refine ax.of (qI.c ?_)
 refine aj.ed (n:=ts.length) (by omega) (λk x u=>∃lk:List az.Bind,x.2=lk.map Bind.pv/\gN (ts.take k) s l=some lk/\lk.length<=l.length+k) ⟨l,rfl,rfl,Nat.le_refl _⟩ ?_ ?_
 ·rintro k ⟨f,_⟩ u next hk ⟨lk,rfl,CP,hlen⟩ ar
  have hta:=qn hk CP
  refine ae.t (by simpa using hk) ⟨by omega,_,aI hk,_,_,_,_,_,_,_,rfl,?_⟩
  refine ax.call (WX f .sh ts[k] s lk (by omega) (ht _ (List.getElem_mem hk))) λp hp=>?_
  obtain⟨l2,rfl,h2⟩:=hp
  refine⟨_,_,_,rfl,ae.mk (λh=>?_) (λh=>?_)⟩
  ·have iA:met ts[k] s lk=none:=by
    cases hm:met ts[k] s lk with
    |none=>rfl
    |some r=>rw[hm]at h;simp at h
   have:gN ts s l=none:=vw (k+1) (by rw[hta,iA])
   exact⟨[],by rw[this];rfl,λl' e=>by rw[this]at e;cases e⟩
  ·cases hm:met ts[k] s lk with
   |none=>rw[hm]at h;simp at h
   |some r=>
    have e:=h2 r hm
    subst e
    have:=tC hm
    exact ar _ _ ⟨l2,rfl,by rw[hta,hm],by omega⟩
 ·rintro⟨f,_⟩ u next ⟨lk,rfl,CP,_⟩
  rw[List.take_length]at CP
  exact ae.f (by simp) ⟨lk,by rw[CP];rfl,λl' e=>by rw[CP]at e;cases e;rfl⟩
theorem Va(fa fv fc fl:Fl)(c:an)(e:av)(l:List az.Bind)(hn:l.length+1+c.attr.length+c.value.length<=1000000)(ha:∀t∈c.attr,t.list.length<=1000000)(hv:∀t∈c.value,t.list.length<=1000000):
  ax prog 308 [.agg [pI c.kind,pB c.goal,pS c.id,.list 6 fa (c.attr.map Test.pv),.list 6 fv (c.value.map Test.pv),pB c.acc,.list 7 fc (c.conds.map an.pv)],.agg e.pv,.list 4 fl (l.map Bind.pv)] (vM (dx c e l)):=by
 refine ax.of (sy.c ?_)
 have no:dx c e l=none->vM (dx c e l) (wk (.aC [.list 4 .nil [],pB false])):=λh=>⟨[],by rw[h];rfl,λl' e'=>by rw[h]at e';cases e'⟩
 refine⟨λ_ u=>(c.kind=1\/c.kind=2)/\(c.goal=true->e.goal=true)/\c.acc=e.acc,?_,?_⟩
 ·have rest:(c.kind=1\/c.kind=2)->∀u:Mem,ae c.goal
    (ae (!e.goal) (vM (dx c e l) (wk (.aC [.list 4 .nil [],pB false]))) (ae (!(c.acc == e.acc)) (vM (dx c e l) (wk (.aC [.list 4 .nil [],pB false]))) ((c.kind=1\/c.kind=2)/\(c.goal=true->e.goal=true)/\c.acc=e.acc)))
    (ae (!(c.acc == e.acc)) (vM (dx c e l) (wk (.aC [.list 4 .nil [],pB false]))) ((c.kind=1\/c.kind=2)/\(c.goal=true->e.goal=true)/\c.acc=e.acc)):=λhk u=>by
   refine ae.mk (λg=>ae.mk (λg2=>no ?_) (λg2=>ae.mk (λg3=>no ?_) (λg3=>⟨hk,λ_=>by simpa using g2,by simpa using g3⟩))) (λg=>ae.mk (λg3=>no ?_) (λg3=>⟨hk,(λh=>by rw[g]at h;cases h),by simpa using g3⟩))
   ·rw[dx,if_neg];rintro⟨_,h,_⟩;simp[h g]at g2
   ·rw[dx,if_neg];rintro⟨_,_,h⟩;simp[h]at g3
   ·rw[dx,if_neg];rintro⟨_,_,h⟩;simp[h]at g3
  refine ae.mk (λk1=>ae.mk (λk2=>no ?_) (λk2=>rest (.inr (by simpa using k2)) M0)) (λk1=>rest (.inl (by simpa using k1)) M0)
  rw[dx,if_neg];rintro⟨h|h,_⟩
  ·rw[h]at k1;simp at k1
  ·rw[h]at k2;simp at k2
 ·rintro _ u hc
  have qx:dx c e l=(met (rU c.id) e.id l).bind λl1=>(gN c.attr e.attr l1).bind λl2=>gN c.value e.value l2:=if_pos hc
  refine ax.call (WX fl .sh (rU c.id) e.id l (by omega) (by simp)) λp hp=>?_
  obtain⟨l1,rfl,h1⟩:=hp
  refine⟨_,_,_,rfl,ae.mk (λh=>no ?_) (λh=>?_)⟩
  ·cases hm:met (rU c.id) e.id l with
   |none=>rw[qx,hm];rfl
   |some r=>rw[hm]at h;simp at h
  ·cases hm:met (rU c.id) e.id l with
   |none=>rw[hm]at h;simp at h
   |some r1=>
    have e1:=h1 r1 hm
    subst e1
    have Fm:=tC hm
    refine ax.call (FW fa .sh c.attr e.attr l1 (by omega) ha) λp hp=>?_
    obtain⟨l2,rfl,h2⟩:=hp
    refine⟨_,_,_,rfl,ae.mk (λh=>no ?_) (λh=>?_)⟩
    ·cases lS:gN c.attr e.attr l1 with
     |none=>rw[qx,hm];show(gN c.attr e.attr l1).bind _=none;rw[lS];rfl
     |some r=>rw[lS]at h;simp at h
    ·cases lS:gN c.attr e.attr l1 with
     |none=>rw[lS]at h;simp at h
     |some r2=>
      have e2:=h2 r2 lS
      subst e2
      have uF:=lZ lS
      have Qx:dx c e l=gN c.value e.value l2:=by rw[qx,hm];show(gN c.attr e.attr l1).bind _=_;rw[lS];rfl
      refine ax.call (FW fv .sh c.value e.value l2 (by omega) hv) λp hp=>?_
      obtain⟨l3,rfl,h3⟩:=hp
      exact⟨_,_,_,rfl,l3,by rw[Qx];rfl,λl' e'=>h3 l' (by rw[<- Qx];exact e')⟩
abbrev tR(N:Nat)(cv:Nat->Nat):Lq:=(List.range N).map λi=>[pI ((cv i:Nat):Int)]
def nz(z:Nat)(R:Int)(o:Bool)(N:Nat)(cv:Nat->Nat):bk:=λμ=>∃a c,Ow [Pt z 182 [pV a N c,pI R,pB o],jD 3 1 (pV a N c) (tR N cv)] μ
theorem nz.open_{z:Nat}{R:Int}{o:Bool}{N:Nat}{cv:Nat->Nat}{L:List bk}{μ:Mem}(h:Ow (nz z R o N cv::L) μ):∃a c,Ow (Pt z 182 [pV a N c,pI R,pB o]::jD 3 1 (pV a N c) (tR N cv)::L) μ:=by
 obtain⟨a,h⟩:=Ow.ex h
 obtain⟨c,h⟩:=Ow.ex h
 exact⟨a,c,h.nest⟩
theorem nz.rD{z:Nat}{R:Int}{o:Bool}{N c:Nat}{a:Option Addr}{cv:Nat->Nat}{L:List bk}{μ:Mem}(h:Ow (Pt z 182 [pV a N c,pI R,pB o]::jD 3 1 (pV a N c) (tR N cv)::L) μ):Ow (nz z R o N cv::L) μ:=
 (Ow.pack (L1:=[_,_]) h).imp λ_ hν=>⟨a,c,hν⟩
theorem MV{N:Nat}{cv:Nat->Nat}(h:cv N=0):tR N cv++[[pI 0]]=tR (N+1) cv:=by
 unfold tR;rw[List.range_succ,List.map_append,List.map_singleton,h];rfl
theorem aeQ{z N:Nat}{R:Int}{o:Bool}{cv:Nat->Nat}(hz:∀j,N<=j->cv j=0)(n k:Nat)(hn:n<=100000)(hN:N<=100000){L:List bk}{μ:Mem}(hO:Ow (nz z R o N cv::L) μ){K:Kq}
  (hk:∀μ',Ow (nz z R (o||decide (R<(k:Int))) (max N (n+1)) (XI cv n k)::L) μ'->K (.aC []) μ'):ab prog 219 [pP z 0,pI (n:Nat),pI (k:Nat)] μ K:=by
 refine lj.c ?_
 refine⟨λm _ u=>∃N',N<=N'/\N'<=max N (n+1)/\m=max N (n+1)-N'/\Ow (nz z R o N' cv::L) u,⟨_,N,Nat.le_refl _,by omega,rfl,hO⟩,?_⟩
 rintro m _ u ⟨N',h1,h2,rfl,hO⟩
 obtain⟨a,c,hO⟩:=nz.open_ hO
 refine⟨_,_,_,hO.rd 0 rfl (by simp),ae.mk (λh=>?_) (λh=>?_)⟩
 ·have h:N'<=n:=by simp at h;omega
  obtain⟨a',c',e,jQ⟩:=jD.app hO.swap (Ra N' cv)
  have hl:(tR N' cv).length=N':=by simp
  simp only[PV.raw.injEq,Value.slice.injEq]at e
  obtain⟨rfl,_,rfl⟩:=e
  rw[hl]at jQ
  refine⟨_,_,_,hO.rd 0 rfl (by simp),?_⟩
  refine jQ _ _ _ rfl rfl (by omega) (by omega) λb2 c2 u2 wR=>?_
  rw[MV (hz N' h1)]at wR
  refine wR.st 1 rfl (by simp) λu3 MH=>⟨_,?_,N'+1,by omega,by omega,rfl,nz.rD MH.swap⟩
  omega
 ·have h:n<N':=by simp at h;omega
  have hm:max N (n+1)=N':=by omega
  have hl:n<(tR N' cv).length:=by simpa using h
  obtain⟨b,rfl,_,iu⟩:=jD.at_ 1 hO rfl (Ra N' cv) (j:=n) hl
  refine⟨_,_,_,hO.rd 0 rfl (by simp),by omega,by omega,?_⟩
  rw[Int.toNat_natCast]
  refine iu 0 _ _ (by simp) λu2 wR=>?_
  have e:(tR N' cv).set n (ei (tR N' cv)[n] 0 [pI (k:Nat)])=tR N' (XI cv n k):=by
   have e1:ei (tR N' cv)[n] 0 [pI (k:Nat)]=[pI ((k:Nat):Int)]:=by simp[ei]
   rw[e1];exact ZY h
  have wR:Ow (Pt z 182 [pV (some ⟨b,0,none⟩) N' c,pI R,pB o]::jD 3 1 (pV (some ⟨b,0,none⟩) N' c) ((tR N' cv).set n (ei (tR N' cv)[n] 0 [pI (k:Nat)]))::L) u2:=wR
  rw[e]at wR
  rw[hm]at hk
  refine⟨_,wR.rd 0 rfl (by simp),ae.mk (λho=>?_) (λho=>⟨_,wR.rd 0 rfl (by simp),?_⟩)⟩
  ·subst ho
   exact wR.st 0 rfl (by simp) λu3 MH=>hk _ (nz.rD MH)
  ·subst ho
   exact wR.st 0 rfl (by simp) λu3 MH=>hk _ (nz.rD MH)
theorem aaB(f:Fl)(l:List cA)(hl:l.length<=100000000)(i:Int):Pure prog 307 [.list 3 f (l.map cA.pv),pI i] (pB (Bq l i)):=by
 refine ax.of (sw.c ?_)
 refine aj.each (n:=l.length) (by omega) (λk u=>(l.take k).any (λt=>t.at_ == i)=false) (by simp) ?_ ?_
 ·intro k u next hk hg ar
  refine ae.t (by simpa using hk) ⟨by omega,_,aI hk,_,rfl,ae.mk (λhe=>?_) (λhe=>ar _ (by rw[zr hk hg];exact he))⟩
  show wk (pB true)=_
  rw[Bq,Ja (p:=λt:cA=>t.at_ == i) hk he];rfl
 ·intro u next hg
  rw[List.take_length]at hg
  exact ae.f (by simp) (by rw[Bq,hg];rfl)
def iK:List Int->List Int->Bool
 |[],b=> !b.isEmpty
 |_::_,[]=>false
 |x::a,y::b=>if x=y then iK a b else decide (x<y)
theorem va:∀(k:Nat) (a b:List Int),k<=a.length->k<=b.length->a.take k=b.take k->iK a b=iK (a.drop k) (b.drop k)
 |0,_,_,_,_,_=>rfl
 |k+1,[],_,h,_,_=>by simp at h
 |k+1,_::_,[],_,h,_=>by simp at h
 |k+1,x::a,y::b,h1,h2,h=>by
  simp only[List.take_succ_cons,List.cons.injEq]at h
  obtain⟨rfl,h⟩:=h
  simp only[iK,if_true,List.drop_succ_cons]
  exact va k a b (by simpa using h1) (by simpa using h2) h
theorem aat(f g:Fl)(a b:List Int)(ha:a.length<=100000000)(hb:b.length<=100000000):Pure prog 159 [.list 1 f (a.map dU),.list 1 g (b.map dU)] (pB (iK a b)):=by
 refine ax.of (sx.c ⟨λ_ _=>∃k,k<=a.length/\k<=b.length/\a.take k=b.take k/\(k=a.length\/k=b.length),?_,?_⟩)
 ·refine aj.each (n:=a.length) (by omega) (λk u=>k<=b.length/\a.take k=b.take k) ⟨by omega,rfl⟩ ?_ ?_
  ·rintro k u next hk ⟨h1,h2⟩ ar
   refine ae.t (by simpa using hk) (ae.mk (λh=>?_) (λh=>?_))
   ·have h:k<b.length:=by simpa using h
    refine⟨by omega,_,aI hk,_,rfl,by omega,_,aI h,_,rfl,ae.mk (λbm=>?_) (λhe=>ar _ ⟨by omega,?_⟩)⟩
    ·have bm:a[k]≠b[k]:=by simpa using bm
     refine⟨by omega,_,aI hk,_,rfl,by omega,_,aI h,_,rfl,?_⟩
     show wk (pB (decide (a[k]<b[k])))=_
     rw[va k a b (by omega) h1 h2,List.drop_eq_getElem_cons hk,List.drop_eq_getElem_cons h,iK,if_neg bm];rfl
    ·have he:a[k]=b[k]:=by simpa using he
     rw[List.take_add_one,List.take_add_one,List.getElem?_eq_getElem hk,List.getElem?_eq_getElem h,h2,he]
   ·have h:¬k<b.length:=by simpa using h
    exact⟨k,by omega,by omega,h2,.inr (by omega)⟩
  ·rintro u next ⟨h1,h2⟩
   exact ae.f (by simp) ⟨a.length,by omega,h1,h2,.inl rfl⟩
 ·rintro _ u ⟨k,h1,h2,h3,h4⟩
  show wk (pB (decide ((((a.map dU).length:Nat):Int)<(((b.map dU).length:Nat):Int))))=_
  rw[va k a b h1 h2 h3]
  have e:decide ((((a.map dU).length:Nat):Int)<(((b.map dU).length:Nat):Int))=iK (a.drop k) (b.drop k):=by
   rcases h4 with rfl|rfl
   ·rw[List.drop_length]
    simp only[iK,List.length_map]
    cases hd:b.drop a.length with
    |nil=>have:=congrArg List.length hd;simp at this;simp;omega
    |cons y r=>have:=congrArg List.length hd;simp at this;simp;omega
   ·rw[List.drop_length]
    simp only[List.length_map]
    cases hd:a.drop b.length with
    |nil=>have:=congrArg List.length hd;simp at this;simp[iK];omega
    |cons y r=>have:=congrArg List.length hd;simp at this;simp[iK];omega
  rw[e];rfl
theorem OO(n:Nat)(f:Nat->Nat)(j:Nat):sh n f j=(if j=n then f 0 else 0)+sh (n+1) (λj=>f (j+1)) j:=by
 unfold sh
 by_cases e:j=n
 ·subst e;rw[if_pos (Nat.le_refl _),Nat.sub_self,if_pos rfl,if_neg (by omega)];omega
 ·rw[if_neg e]
  by_cases h:n<=j
  ·rw[if_pos h,if_pos (by omega),show j-n=j-(n+1)+1 from by omega,Nat.zero_add]
  ·rw[if_neg h,if_neg (by omega)]
theorem BY{es:List av}{c:an}(h:¬(c.kind=1\/c.kind=2))(rows:List (List az.Bind)):(λj=>gT es c rows (j+1))=cL es c.conds rows:=by
 funext j
 rw[Dg]
 unfold gT
 congr 1
 exact List.map_congr_left λb _=>by rw[Dj,if_neg h]
theorem JI{es:List av}{c:an}(h:c.kind=1\/c.kind=2)(rows:List (List az.Bind))(j:Nat):gT es c rows (j+1)=0:=by
 unfold gT
 induction rows with
 |nil=>rfl
 |cons b rows ih=>rw[List.map_cons,List.sum_cons,ih,Dj,if_pos h]
theorem rB{es:List av}{c:an}{ts:List cA}{k:Nat}(hk:k<ts.length):aW es c (ts.take (k+1))=aW es c (ts.take k)++aW es c [ts[k]]:=by
 rw[<- pN,List.take_add_one,List.getElem?_eq_getElem hk];rfl
theorem Bn:∀(a:Nat) {ts:List cA} {k:Nat} (hk:k<ts.length),mD a (ts.take (k+1))=mD a (ts.take k)++[⟨[],ts[k].binds,((a+k:Nat):Int)⟩]
 |a,t::ts,0,_=>rfl
 |a,t::ts,k+1,hk=>by
  simp only[List.take_succ_cons,mD,List.cons_append,List.getElem_cons_succ]
  rw[Bn (a+1) (by simpa using hk),show a+1+k=a+(k+1)from by omega]
mutual
def PW:an->Prop
 | .mk k g i a v ac cs=>(k=1\/k=2\/k=3)/\Ad cs
def Ad:List an->Prop
 |[]=>True
 |c::cs=>PW c/\Ad cs
end
theorem Km(c:an):PW c↔(c.kind=1\/c.kind=2\/c.kind=3)/\Ad c.conds:=by cases c;rfl
theorem PT{l:List an}:Ad l↔∀c∈l,PW c:=by
 induction l with
 |nil=>simp[Ad]
 |cons c l ih=>simp[Ad,ih]
section
variable {es:List av} {R:Int}
def ae5(es:List av)(R:Int)(c:an)(n:Nat)(ts:List cA)(cv:Nat->Nat)(o:Bool)(y_:Nat->Nat)(out:List cA):Prop:=
 (o=false/\(∀j,((gT es c (iY ts) (j+1):Nat):Int)<=R)/\y_=(λj=>cv j+sh (n+1) (λj=>gT es c (iY ts) (j+1)) j)/\(out=aW es c ts\/(R<((aW es c ts).length:Nat)/\R<(out.length:Nat))))\/(o=true/\∃j,R<((gT es c (iY ts) (j+1):Nat):Int))
def pd(es:List av)(R:Int)(c:an):Prop:=∀(fa fv fc ft fe:Fl) (n N z:Nat) (cv:Nat->Nat) (ts:List cA) {L:List bk} {μ:Mem} {K:Kq},L_ c->PW c->n+cP c<=2000->N<=n->(∀j,N<=j->cv j=0)->ts.length<=1000000->(∀t∈ts,t.binds.length+100*cP c<=900000/\t.tags.length+1<=900000)->Ow (nz z R false N cv::L) μ->
    (∀f o N' y_ out μ',ae5 es R c n ts cv o y_ out->N'<=n+cP c->(∀j,N'<=j->y_ j=0)->out.length<=1000001->(∀t∈out,t.tags.length<=900000)->Ow (nz z R o N' y_::L) μ'->K (.list 3 f (out.map cA.pv)) μ')->
    ab prog 218 [.agg [pI c.kind,pB c.goal,pS c.id,.list 6 fa (c.attr.map Test.pv),.list 6 fv (c.value.map Test.pv),pB c.acc,.list 7 fc (c.conds.map an.pv)],pI (n:Nat),.list 3 ft (ts.map cA.pv),.list 12 fe (es.map av.pv),pP z 0] μ K
def GoR(es:List av)(R:Int)(l:List an)(n:Nat)(ts:List cA)(cv:Nat->Nat)(o:Bool)(y_:Nat->Nat)(out:List cA):Prop:=
 (o=false/\(∀j,((cL es l (iY ts) j:Nat):Int)<=R)/\y_=(λj=>cv j+sh n (cL es l (iY ts)) j)/\out=aH es l ts)\/(o=true/\∃j,R<((cL es l (iY ts) j:Nat):Int))
def Jl(es:List av)(R:Int)(l:List an):Prop:=∀(fl ft fe:Fl) (n N z:Nat) (cv:Nat->Nat) (ts:List cA) {L:List bk} {μ:Mem} {K:Kq},uW l->Ad l->n+ao l<=2000->N<=n->(∀j,N<=j->cv j=0)->ts.length<=1000000->(∀t∈ts,t.binds.length+100*ao l<=900000/\t.tags.length+ao l<=900000)->Ow (nz z R false N cv::L) μ->
    (∀f o N' y_ out μ',GoR es R l n ts cv o y_ out->N'<=n+ao l->(∀j,N'<=j->y_ j=0)->out.length<=1000001->(∀t∈out,t.tags.length<=900000)->Ow (nz z R o N' y_::L) μ'->K (.list 3 f (out.map cA.pv)) μ')->
    ab prog 158 [.list 7 fl (l.map an.pv),pI (n:Nat),.list 3 ft (ts.map cA.pv),.list 12 fe (es.map av.pv),pP z 0] μ K
theorem Ed{c:an}(hl:iq c){ts:List cA}{m:Nat}(h:∀t∈ts,t.binds.length<=m):∀t∈aW es c ts,t.binds.length<=m+100*cP c:=by
 intro t ht
 have h1:t.binds∈iY (aW es c ts):=List.mem_map.2 ⟨t,ht,rfl⟩
 rw[nS]at h1
 obtain⟨b,hb,h2⟩:=List.mem_flatMap.1 h1
 obtain⟨t',h3,rfl⟩:=List.mem_map.1 hb
 have:=UD hl h2
 have:=h t' h3
 omega
theorem sV:∀{l:List an} (_:dT l) {ts:List cA} {m:Nat} (_:∀t∈ts,t.binds.length<=m),∀t∈aH es l ts,t.binds.length<=m+100*ao l
 |[],_,_,_,h=>λt ht=>by have:=h t ht;simp[ao];exact this
 |c::l,hl,ts,m,h=>λt ht=>by
  have:=sV (l:=l) hl.2 (Ed (es:=es) hl.1 h) t ht
  simp only[ao];omega
theorem aey(hR:0<=R/\R<=1000000){l:List an}(hs:∀c∈l,pd es R c):Jl es R l:=by
 intro fl ft fe n N z cv ts L μ K aD Qs eg hN hz Wk wO hO hk
 have xu:=gk l
 refine vH.c ?_
 refine⟨λm s u=>∃i,s.2.2=((i:Nat):Int)/\i<=l.length/\m=l.length-i/\s.1=((n+ao (l.take i):Nat):Int)/\∃o N' y_ out,s.2.1.2=out.map cA.pv/\(o=false->GoR es R (l.take i) n ts cv false y_ out)/\(o=true->∃j,R<((cL es l (iY ts) j:Nat):Int))/\N'<=n+ao (l.take i)/\(∀j,N'<=j->y_ j=0)/\out.length<=1000001/\(∀t∈out,t.tags.length<=900000)/\Ow (nz z R o N' y_::L) u,
  ⟨_,0,rfl,by omega,rfl,by simp[ao],false,N,cv,ts,rfl,λ_=>.inl ⟨rfl,λj=>by simp[cL];omega,?_,rfl⟩,(λh=>by cases h),by simp[ao];omega,hz,by omega,λt ht=>by have:=(wO t ht).2;omega,hO⟩,?_⟩
 ·funext j;simp only[List.take_zero];rw[XZ];rfl
 rintro m ⟨_,⟨f,_⟩,_⟩ u ⟨i,rfl,hi,rfl,rfl,o,N',y_,out,rfl,hg,Qk,hN',nE,hol,hot,hO⟩
 dsimp only
 have fin:(o=false->i=l.length)->K (.list 3 f (out.map cA.pv)) u:=λh=>by
  refine hk f o N' y_ out u ?_ (by have:=qT l i;omega) nE hol hot hO
  cases o with
  |true=>exact .inr ⟨rfl,Qk rfl⟩
  |false=>
   have hg:=hg rfl
   rw[h rfl,List.take_length]at hg
   exact hg
 refine ae.mk (λh=>?_) (λh=>fin λ_=>by simp at h;omega)
 have hi:i<l.length:=by simpa using h
 obtain⟨a,cc,MI⟩:=nz.open_ hO
 refine⟨_,MI.rd 0 rfl (by simp),ae.mk (λho=>?_) (λho=>fin λe=>by rw[e]at ho;cases ho)⟩
 have ho:o=false:=by simpa using ho
 subst ho
 obtain⟨_,hle,rfl,rfl⟩:=(hg rfl).resolve_right λh=>by cases h.1
 have hm:=List.getElem_mem hi
 have akv:=Ee hi
 have apf:=qT l (i+1)
 have Sq:1<=cP l[i]:=by rw[cT];omega
 have fw:=EE.1 aD _ hm
 have zR:iY (aH es (l.take i) ts)=vY es (l.take i) (iY ts):=eX es _ ts
 have hln:(aH es (l.take i) ts).length<=1000000:=by
  by_cases h0:i=0
  ·subst h0;exact Wk
  ·obtain⟨k,rfl⟩:∃k,i=k+1:=⟨i-1,by omega⟩
   rw[rz (by omega) ts]
   have h1:=hle (ao (l.take k))
   rw[Df es (by omega) (iY ts),acB]at h1
   omega
 refine⟨by omega,_,aI hi,_,_,_,_,_,_,_,_,_,_,KI _,?_⟩
 have bB:dT (l.take i):=mA.2 λc hc=>mA.1 (Ho aD) c (List.mem_of_mem_take hc)
 refine hs _ hm .sh .sh .sh f fe (n+ao (l.take i)) N' z _ _ fw (PT.1 Qs _ hm) (by omega) hN' nE hln (λt ht=>⟨?_,?_⟩) hO λf1 o1 N1 cv1 Hm u1 hr hN1 hz1 Fm ht1 wR=>⟨_,_,rfl,?_⟩
 ·have h1:=sV (es:=es) bB (m:=900000-100*ao l) (ts:=ts) (λt ht=>by have:=(wO t ht).1;omega) t ht
  have Mr:∀t∈ts,100*ao l<=900000:=λt ht=>by have:=(wO t ht).1;omega
  cases ts with
  |nil=>
   have:∀l:List an,aH es l []=[]:=λl=>by
    induction l with
    |nil=>rfl
    |cons c l ih=>show aH es l (aW es c [])=[];unfold aW;simp;exact ih
   rw[this]at ht;cases ht
  |cons t0 ts=>have:=Mr t0 (by simp);omega
 ·have Mr:∀t∈ts,t.tags.length<=900000-ao l/\ao l<=900000:=λt ht=>by have:=(wO t ht).2;omega
  have h1:=nQ (es:=es) (l:=l.take i) (m:=900000-ao l) (ts:=ts) (λt ht=>(Mr t ht).1) t ht
  have h2:=gk (l.take i)
  rw[List.length_take,Nat.min_eq_left (by omega)]at h1 h2
  omega
 rw[List.length_map]
 refine aeQ hz1 (n+ao (l.take i)) Hm.length (by omega) (by omega) wR λu2 MH=>⟨rfl,by omega,_,aI hi,.sh,l[i].conds.map an.pv,by rw[an.jf];rfl,?_⟩
 refine(Rr _ .sh l[i].conds (Nat.le_refl _) (by rw[cT]at akv;omega)).call ⟨_,rfl,?_⟩
 refine⟨l.length-(i+1),by omega,i+1,by rw[aB (by omega) (by omega)];rfl,by omega,rfl,?_,_,_,_,Hm,rfl,λho=>?_,λho=>?_,by omega,λj hj=>?_,Fm,ht1,MH⟩
 ·have:=cT l[i]
  rw[aB (x:=1+((ao l[i].conds:Nat):Int)) (by omega) (by omega),aB (by omega) (by omega)];omega
 ·obtain⟨h1,h2⟩:=Bool.or_eq_false_iff.1 ho
  subst h1
  obtain⟨_,r1,rfl,r2⟩:=hr.resolve_right λh=>by cases h.1
  have h2:((Hm.length:Nat):Int)<=R:=by simpa using h2
  obtain rfl:=r2.resolve_right λh=>by omega
  rw[zR]at r1
  have Zx:=rz (es:=es) hi ts
  rw[kA hi]at Zx
  refine .inl ⟨rfl,λj=>?_,?_,(kA hi ts).symm⟩
  ·have h4:∀j,((gT es l[i] (vY es (l.take i) (iY ts)) j:Nat):Int)<=R:=λj=>by
    cases j with
    |zero=>rw[<- Zx];exact h2
    |succ j=>exact r1 j
   rw[Df es hi]
   unfold sh
   split
   ·rename_i h5
    rw[Di es _ _ _ h5,Nat.zero_add];exact h4 _
   ·rw[Nat.add_zero];exact hle j
  ·funext j
   rw[Zx]
   have e:sh n (λq=>cL es (l.take i) (iY ts) q+sh (ao (l.take i)) (gT es l[i] (vY es (l.take i) (iY ts))) q) j=sh n (cL es (l.take i) (iY ts)) j+sh (n+ao (l.take i)) (gT es l[i] (vY es (l.take i) (iY ts))) j:=by rw[X_,acA]
   have e2:sh n (cL es (l.take (i+1)) (iY ts)) j=sh n (λq=>cL es (l.take i) (iY ts) q+sh (ao (l.take i)) (gT es l[i] (vY es (l.take i) (iY ts))) q) j:=Ef (λq=>Df es hi _ q) j
   have e3:sh n (cL es (l.take (i+1)) (iY ts)) j=sh n (cL es (l.take i) (iY ts)) j+sh (n+ao (l.take i)) (gT es l[i] (vY es (l.take i) (iY ts))) j:=e2.trans e
   have e4:=OO (n+ao (l.take i)) (gT es l[i] (vY es (l.take i) (iY ts))) j
   show XI _ _ _ j=cv j+sh n (cL es (l.take (i+1)) (iY ts)) j
   rw[e3,e4]
   unfold XI
   by_cases hj:j=n+ao (l.take i)
   ·rw[if_pos hj,if_pos hj]
    have z1:=nE j (by omega)
    have z1:cv j+sh n (cL es (l.take i) (iY ts)) j=0:=z1
    have z2:sh (n+ao (l.take i)+1) (λj=>gT es l[i] (vY es (l.take i) (iY ts)) (j+1)) j=0:=by unfold sh;rw[if_neg (by omega)]
    omega
   ·rw[if_neg hj,if_neg hj,zR];dsimp only;omega
 ·have h4:∃j,R<((gT es l[i] (vY es (l.take i) (iY ts)) j:Nat):Int):=by
   rcases hr with⟨rfl,r1,rfl,r2⟩|⟨_,j,h⟩
   ·have h2:R<((Hm.length:Nat):Int):=by simpa using ho
    refine⟨0,?_⟩
    rw[<- rz hi ts,kA hi]
    rcases r2 with rfl|⟨h3,_⟩
    ·exact h2
    ·exact h3
   ·exact⟨j+1,by rw[<- zR];exact h⟩
  obtain⟨j,h4⟩:=h4
  exact(Dh es R l (iY ts)).2 (.inr ⟨i,hi,j,h4⟩)
 ·unfold XI
  rw[if_neg (by omega)]
  exact hz1 j (by omega)
end
end Go.Proofs.YtbkejjmjopgpoaaGreat
