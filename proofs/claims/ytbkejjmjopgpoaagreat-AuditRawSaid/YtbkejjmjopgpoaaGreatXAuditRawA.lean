/- What the proof of the statement AuditRaw rests on. Conditions: none. -/
import Derived.Test.YtbkejjmjopgpoaaGreatB08
import Derived.Test.YtbkejjmjopgpoaaGreatProg
import Derived.KernelRfl
import Derived.ChangeArms
import Derived.WideShapes
import Derived.DataReads
set_option linter.all false
namespace Go.Proofs.YtbkejjmjopgpoaaGreat
open Go.Proofs.Tryz Go.az
variable {u0:Mem} {K:Kq}
set_option maxRecDepth 100000
theorem mN.c{w x y z A B:Fl}{a b d e f g:Lq}{i j k l m n o:Int}(h: ab prog 6 [.agg [.list 12 .sh a,.list 16 .sh b,.list 9 .sh d,.list 5 .sh e,.list 1 .sh f,.list 1 .sh g,pI i,pI j,pI k,pI l,pI m,pI n,pI o]] u0 λF p=> ∃s,F=(pB s)/\ ae s (ab prog 7 [] p λG C=> ∃t,G=(pB t)/\ K (pB t) C) (dg prog 8 [.agg [.list 12 .sh a,.list 16 .sh b,.list 9 .sh d,.list 5 .sh e,.list 1 .sh f,.list 1 .sh g,pI i,pI j,pI k,pI l,pI m,pI n,pI o]] p λH D=> ∃u,H=(pI u)/\ ab prog 9 [.agg [.list 12 .sh a,.list 16 .sh b,.list 9 .sh d,.list 5 .sh e,.list 1 .sh f,.list 1 .sh g,pI i,pI j,pI k,pI l,pI m,pI n,pI o]] (Mem.or p D) λI q=> ∃v,I=(pI v)/\ ae (u == v) (ab prog 7 [] q λJ E=> ∃r,J=(pB r)/\ K (pB r) E) (K (pB false) q))):ab prog 3 [.agg [.list 12 w a,.list 16 x b,.list 9 y d,.list 5 z e,.list 1 A f,.list 1 B g,pI i,pI j,pI k,pI l,pI m,pI n,pI o]] u0 K:= VC [1] [] [] [] [] [] [] func3 h
theorem mb.c{n y z A B D:Fl}{m o e d f C:Lq}{E F G H I J L:Int}(h: ab prog 11 [.list 12 n m,pI 40] u0 λP b=> ∃w,P=(pB w)/\ ae (!w) (K (pB true) b) (ae (decide (((List.length o:Nat):Int)>30)) (K (pB true) b) (ae (decide (((List.length e:Nat):Int)>10)) (K (pB true) b) (ae (decide (((List.length d:Nat):Int)>30)) (K (pB true) b) (ae (decide (((List.length f:Nat):Int)>10)) (K (pB true) b) (aj (α:=Int) (λM a j=> ae (decide (a<((List.length d:Nat):Int))) (0<=a/\∃(p:List PV),(d)[Int.toNat a]?=some p/\ ∃Q t,aA p 3 1=some [.list 1 Q t]/\ ae (decide (((List.length t:Nat):Int)>20)) (K (pB true) j) (0<=a/\∃(q:List PV),(d)[Int.toNat a]?=some q/\ ∃u,aA q 2 1=some [pS u]/\ ae (decide ((((ByteArray.size u:Nat):Int):Int)>100)) (K (pB true) j) (M (IntKind.wrap .i64 (a+1)) j))) (aj (α:=Int) (λN g k=> ae (decide (g<((List.length f:Nat):Int))) (0<=g/\∃(r:List PV),(f)[Int.toNat g]?=some r/\ ∃R v,aA r 0 1=some [.list 1 R v]/\ ae (decide (((List.length v:Nat):Int)>30)) (K (pB true) k) (N (IntKind.wrap .i64 (g+1)) k)) (aj (α:=Int) (λO i l=> ae (decide (i<((List.length e:Nat):Int))) (0<=i/\∃(s:List PV),(e)[Int.toNat i]?=some s/\ ∃S x,aA s 5 1=some [.list 3 S x]/\ ae (decide (((List.length x:Nat):Int)>20)) (K (pB true) l) (O (IntKind.wrap .i64 (i+1)) l)) (K (pB false) l)) (0) k)) (0) j)) (0) b)))))):ab prog 6 [.agg [.list 12 n m,.list 16 y o,.list 9 z e,.list 5 A d,.list 1 B f,.list 1 D C,pI E,pI F,pI G,pI H,pI I,pI J,pI L]] u0 K:= VC [1] [(4,⟨[(3,.one (.raw (.int .i64)))],[]⟩),(9,⟨[(4,.one (.raw (.int .i64)))],[]⟩),(14,⟨[(5,.one (.raw (.int .i64)))],[]⟩)] [] [] [] [] [] func6 h
theorem DF.c{l r s u w y:Fl}{e q f t v x:Lq}{z A B C D E F:Int}(h: dg prog 28 [.list 3 .nil []] u0 λd4 m=> ∃N,d4=(pA N)/\ dg prog 29 [.list 12 .nil []] (Mem.or u0 m) λd5 I=> ∃O,d5=(pA O)/\ dg prog 30 [.list 1 .nil []] (Mem.or (Mem.or u0 m) I) λe1 d0=> ∃P,e1=(pA P)/\ ca (Mem.or (Mem.or (Mem.or u0 m) I) d0) 96 [.list 12 l e,.list 16 r q,.list 9 s f,.list 5 u t,.list 1 w v,.list 1 y x,pI z,pI A,pI B,pI C,pI D,pI E,pI F,pA N,pA O,pA P,pA none] λa d1=> aj (α:=(Fl×Lq)×Int) (λb7 b J=> ae (decide (b.2<((List.length f:Nat):Int))) (0<=b.2/\∃(G:List PV),(f)[Int.toNat b.2]?=some G/\ ∃i j k e9 f0 f2 f1 f3 f4 f5,aA G 0 9=some [pI i,pS j,pI k,pI e9,pS f0,.list 3 f2 f1,pI f3,pS f4,pI f5]/\ bF false 3 32 b.1.1 b.1.2 [[pI i,pS j,pI k]] J λb6 L=> ∃Q,aN L a 13 1=some [pA Q]/\ ab prog 31 [pA Q,.agg [pI i,pS j,pI k]] L λe2 d2=> ∃f6,e2=(pB f6)/\ b7 ((b6,(b.1.2++[[pI i,pS j,pI k]])),(IntKind.wrap .i64 (b.2+1))) d2) (aj (α:=Int) (λb8 g o=> ae (decide (g<((List.length e:Nat):Int))) (0<=g/\∃(H:List PV),(e)[Int.toNat g]?=some H/\ ∃R S T U V W X Y Z a0 a1 p,aA H 0 12=some [pI R,pS S,pI T,pI U,pS V,pI W,pI X,pS Y,pI Z,pB a0,pB a1,pI p]/\ ∃a2,aN o a 14 1=some [pA a2]/\ ab prog 32 [pA a2,.agg [pI R,pS S,pI T,pI U,pS V,pI W,pI X,pS Y,pI Z,pB a0,pB a1,pI p]] o λe3 M=> ∃f7,e3=(pB f7)/\ ∃a3,aN M a 15 1=some [pA a3]/\ ab prog 33 [pA a3,pI p] M λe4 d3=> ∃f8,e4=(pB f8)/\ b8 (IntKind.wrap .i64 (g+1)) d3) (ab prog 35 [.list 12 l e] o λe5 c0=> ∃a4 a5 a6,e5=(.fn a4 a5 a6)/\ ab prog 34 [.list 3 b.1.1 b.1.2,.fn a4 a5 a6] c0 λe6 c1=> ∃a7,e6=(pA a7)/\ stM a 16 [pA a7] c1 λc2=> ab prog 36 [pP a 0] c2 λe7 c3=> ∃a8,e7=(pB a8)/\ ab prog 37 [pP a 0] c3 λe8 c4=> ∃a9,e8=(pB a9)/\ ab prog 38 [pP a 0] c4 λd6 c5=> ∃b0,d6=(pB b0)/\ ab prog 39 [pP a 0] c5 λd7 c6=> ∃b1,d7=(pB b1)/\ ab prog 40 [pP a 0] c6 λd8 c7=> ∃b2,d8=(pB b2)/\ ab prog 41 [pP a 0] c7 λd9 c8=> ∃b3,d9=(pB b3)/\ ab prog 42 [pP a 0] c8 λe0 c9=> ∃b4,e0=(pB b4)/\ aj (α:=Int) (λb9 d n=> ae (decide (d<7)) (0<=d/\d<7/\∃b5,Aq prog 4 (Int.toNat d*1) [pB a8,pB a9,pB b0,pB b1,pB b2,pB b3,pB b4]=some (pB b5)/\ ae (!b5) (K (pI (IntKind.wrap .i64 (d+1))) n) (b9 (IntKind.wrap .i64 (d+1)) n)) (K (pI 0) n)) (0) c9)) (0) J)) ((.nil,[]),0) d1):ab prog 8 [.agg [.list 12 l e,.list 16 r q,.list 9 s f,.list 5 u t,.list 1 w v,.list 1 y x,pI z,pI A,pI B,pI C,pI D,pI E,pI F]] u0 K:= VC [1,6,8] [(4,⟨[(4,.one (.list 3)),(20,.one (.raw (.int .i64)))],[]⟩),(10,⟨[(40,.one (.raw (.int .i64)))],[]⟩),(17,⟨[(81,.one (.raw (.int .i64)))],[]⟩)] [] [] [] [] [] func8 h
theorem sr.c{F G H I J L:Fl}{a b d e f g:Lq}{i j k l m n o:Int}(h: dg prog 43 [.agg [.list 12 .sh a,.list 16 .sh b,.list 9 .sh d,.list 5 .sh e,.list 1 .sh f,.list 1 .sh g,pI i,pI j,pI k,pI l,pI m,pI n,pI o]] u0 λP p=> ∃A,P=(pB A)/\ dg prog 44 [.agg [.list 12 .sh a,.list 16 .sh b,.list 9 .sh d,.list 5 .sh e,.list 1 .sh f,.list 1 .sh g,pI i,pI j,pI k,pI l,pI m,pI n,pI o]] (Mem.or u0 p) λQ r=> ∃B,Q=(pB B)/\ dg prog 45 [.agg [.list 12 .sh a,.list 16 .sh b,.list 9 .sh d,.list 5 .sh e,.list 1 .sh f,.list 1 .sh g,pI i,pI j,pI k,pI l,pI m,pI n,pI o]] (Mem.or (Mem.or u0 p) r) λR s=> ∃v,R=(pB v)/\ dg prog 46 [.agg [.list 12 .sh a,.list 16 .sh b,.list 9 .sh d,.list 5 .sh e,.list 1 .sh f,.list 1 .sh g,pI i,pI j,pI k,pI l,pI m,pI n,pI o]] (Mem.or (Mem.or (Mem.or u0 p) r) s) λS t=> ∃w,S=(pB w)/\ dg prog 47 [.agg [.list 12 .sh a,.list 16 .sh b,.list 9 .sh d,.list 5 .sh e,.list 1 .sh f,.list 1 .sh g,pI i,pI j,pI k,pI l,pI m,pI n,pI o]] (Mem.or (Mem.or (Mem.or (Mem.or u0 p) r) s) t) λT D=> ∃x,T=(pB x)/\ dg prog 48 [.agg [.list 12 .sh a,.list 16 .sh b,.list 9 .sh d,.list 5 .sh e,.list 1 .sh f,.list 1 .sh g,pI i,pI j,pI k,pI l,pI m,pI n,pI o]] (Mem.or (Mem.or (Mem.or (Mem.or (Mem.or u0 p) r) s) t) D) λU N=> ∃y,U=(pB y)/\ ab prog 49 [.agg [.list 12 .sh a,.list 16 .sh b,.list 9 .sh d,.list 5 .sh e,.list 1 .sh f,.list 1 .sh g,pI i,pI j,pI k,pI l,pI m,pI n,pI o]] (Mem.or (Mem.or (Mem.or (Mem.or (Mem.or (Mem.or u0 p) r) s) t) D) N) λV O=> ∃z,V=(pB z)/\ aj (α:=Int) (λM q u=> ae (decide (q<((List.length [[pB A],[pB B],[pB v],[pB w],[pB x],[pB y],[pB z]]:Nat):Int))) (0<=q/\∃(C:List PV),([[pB A],[pB B],[pB v],[pB w],[pB x],[pB y],[pB z]])[Int.toNat q]?=some C/\ ∃E,aA C 0 1=some [pB E]/\ ae (!E) (K (pI (IntKind.wrap .i64 (q+1))) u) (M (IntKind.wrap .i64 (q+1)) u)) (K (pI 0) u)) (0) O):ab prog 9 [.agg [.list 12 F a,.list 16 G b,.list 9 H d,.list 5 I e,.list 1 J f,.list 1 L g,pI i,pI j,pI k,pI l,pI m,pI n,pI o]] u0 K:= VC [1] [(3,⟨[(4,.one (.raw (.int .i64)))],[]⟩)] [] [] [] [] [] func9 h
theorem zH.c{D:Fl}{b:Lq}{E:Fn}{F G:List PV}(h: ab prog 78 [] u0 λe1 c5=> ∃T,e1=(pA T)/\ ca c5 94 [pA none] λd c6=> stM d 0 [pA T] c6 λd1=> aj (α:=Int) (λI e t=> ae (decide (e<((List.length b:Nat):Int))) (0<=e/\∃(M:List PV),(b)[Int.toNat e]?=some M/\ ∃v w x,aA M 0 3=some [pI v,pS w,pI x]/\ ∃U,aN t d 0 1=some [pA U]/\ ab prog 79 [pA U,.agg [pI v,pS w,pI x]] t λe2 u=> ∃f2 V,e2=(.aC [pI f2,pB V])/\ ae (!V) (∃W,aN u d 0 1=some [pA W]/\ ab prog 80 [pA W,.agg [pI v,pS w,pI x],pI (IntKind.wrap .i64 (e+1))] u λe3 d6=> ∃f3,e3=(pB f3)/\ I (IntKind.wrap .i64 (e+1)) d6) (I (IntKind.wrap .i64 (e+1)) u)) (ab prog 81 [.fn E F G] t λe4 d7=> ∃X,e4=(pA X)/\ ab prog 28 [.list 3 D b] d7 λe5 d8=> ∃Y,e5=(pA Y)/\ ca d8 87 [pA none] λH d9=> stM H 0 [pA Y] d9 λe0=> aj (α:=Int) (λJ f q=> ae (decide (f<((List.length b:Nat):Int))) (0<=f/\∃(N:List PV),(b)[Int.toNat f]?=some N/\ ∃y z A,aA N 0 3=some [pI y,pS z,pI A]/\ ca q 3 [pI 0] λp c7=> stM p 0 [pI f] c7 λO=> ∃Z,aN O d 0 1=some [pA Z]/\ ab prog 79 [pA Z,.agg [pI y,pS z,pI A]] O λe6 r=> ∃a0 f4,e6=(.aC [pI a0,pB f4])/\ ∃a1,aN r p 0 1=some [pI a1]/\ ae (a0 != (IntKind.wrap .i64 (a1+1))) (J (IntKind.wrap .i64 (f+1)) r) (ca r 58 [pI y,pS z,pI A] λb9 c8=> ca c8 74 [pV none 0 0] λa c9=> stM a 0 [pV (some ⟨b9,0,none⟩) 1 1] c9 λd0=> aj (α:=Unit) (λL g0 i=> ∃f5 a2 f6,aN i a 0 1=some [pV f5 a2 f6]/\ ae (decide ((((a2:Nat):Int):Int)>0)) (∃a3 a4 f7,aN i a 0 1=some [pV a3 a4 f7]/\ bR a3 λb8 c0=> (0:Int)<=0/\0<((a4:Nat):Int)/\ ∃a5 a6 a7,aN i b8 (c0+Int.toNat 0*3) 3=some [pI a5,pS a6,pI a7]/\ ab prog 82 [pA X,.agg [pI a5,pS a6,pI a7]] i λe7 P=> ∃B f8,e7=(.aC [pA B,pB f8])/\ ∃C l g,aN P a 0 1=some [pV C l g]/\ fW C/\(0:Int)<=1/\1<=((l:Nat):Int)/\((l:Nat):Int)<=((g:Nat):Int)/\((g:Nat):Int)<=((g:Nat):Int)/\ stM a 0 [pV (sX C (Int.toNat 1) (Int.toNat ((g:Nat):Int)) 3) (Int.toNat ((l:Nat):Int)-Int.toNat 1) (Int.toNat ((g:Nat):Int)-Int.toNat 1)] P λQ=> ae (Option.isNone B) (L () Q) (ab prog 83 [pA B] Q λe8 d2=> ∃a8 a9 b0,e8=(.fn a8 a9 b0)/\ bJ prog (.fn a8 a9 b0) (λf1 o s=> ∃j m n,f1=[.agg [pI j,pS m,pI n]]/\ ae (j == 1) (∃b1,aN s H 0 1=some [pA b1]/\ ab prog 31 [pA b1,.agg [pI j,pS m,pI n]] s λe9 k=> ∃b2,e9=(pB b2)/\ ae b2 (∃b3,aN k d 0 1=some [pA b3]/\ ∃b4,aN k p 0 1=some [pI b4]/\ ab prog 80 [pA b3,.agg [pI j,pS m,pI n],pI (IntKind.wrap .i64 (b4+1))] k λf0 R=> ∃f9,f0=(pB f9)/\ ∃b5 b7 b6,aN R a 0 1=some [pV b5 b7 b6]/\ iw 3 32 58 b5 b7 b6 (.list 3 .nr [[pI j,pS m,pI n]]) R λc2 c4 c3 d4=> stM a 0 [pV c2 c4 c3] d4 λd5=> o none d5) (o none k)) (o none s)) (λc1 d3=> PK c1 (L () d3) (False) []) d2)) (J (IntKind.wrap .i64 (f+1)) i)) () d0)) (∃S,aN q d 0 1=some [pA S]/\ K (pA S) q)) (0) e0)) (0) d1):ab prog 34 [.list 3 D b,.fn E F G] u0 K:= VC [7,13,19] [(3,⟨[(23,.one (.raw (.int .i64)))],[]⟩),(12,⟨[(48,.one (.raw (.int .i64)))],[]⟩),(17,⟨[],[]⟩)] [] [(82,[58])] [] [64] [16,64,65,70,76,77,96,99] func34 h
theorem sI.c{d:Option Addr}(h: nP d λq t=> ∃y e,aN u0 q t 1=some [.list 12 y e]/\ aj (α:=Int×Int) (λs b a=> ae (decide (b.2<((List.length e:Nat):Int))) (0<=b.2/\∃(k:List PV),(e)[Int.toNat b.2]?=some k/\ ∃z A B C D E F G H I J f,aA k 0 12=some [pI z,pS A,pI B,pI C,pS D,pI E,pI F,pS G,pI H,pB I,pB J,pI f]/\ ae (decide (f<=b.1)) (K (pB false) a) (s (f,(IntKind.wrap .i64 (b.2+1))) a)) (nP d λr u=> ∃g,aN a r (u+14) 1=some [pA g]/\ nP d λi j=> (∃M o,aN a i j 1=some [.list 12 M o]/\ (ab prog 85 [pA g] a λw v=> ∃m,w=(pI m)/\ K (pB (m == ((List.length o:Nat):Int))) v)/\ True)/\ (ab prog 85 [pA g] a λx l=> ∃n,x=(pI n)/\ ∃L p,aN l i j 1=some [.list 12 L p]/\ K (pB (n == ((List.length p:Nat):Int))) l)/\ True)) (0,0) u0):ab prog 36 [pA d] u0 K:= VC [5,1000009] [(3,⟨[(3,.one (.raw (.int .i64))),(12,.one (.raw (.int .i64)))],[]⟩)] [] [] [] [] [] func36 h
theorem sH.c{a:Option Addr}(h: cw (α:=Unit) (λq=> nP a λL R=> ∃a1 B,aN u0 L (R+2) 1=some [.list 9 a1 B]/\ ae (((List.length B:Nat):Int) == 0) (((K (pB false) u0)/\ True)/\ (K (pB false) u0)/\ True) (nP a λM S=> ∃l,aN u0 M (S+13) 1=some [pA l]/\ nP a λr t=> (∃a3 E,aN u0 r (t+2) 1=some [.list 9 a3 E]/\ (ab prog 86 [pA l] u0 λW x=> ∃C,W=(pI C)/\ ae (C != ((List.length E:Nat):Int)) (K (pB false) x) (q () x))/\ True)/\ (ab prog 86 [pA l] u0 λX k=> ∃D,X=(pI D)/\ ∃a2 F,aN k r (t+2) 1=some [.list 9 a2 F]/\ ae (D != ((List.length F:Nat):Int)) (K (pB false) k) (q () k))/\ True)) (λc3 w=> nP a λN T=> ∃a4 m,aN w N (T+2) 1=some [.list 9 a4 m]/\ aj (α:=Int) (λQ e f=> ae (decide (e<((List.length m:Nat):Int))) (0<=e/\∃(u:List PV),(m)[Int.toNat e]?=some u/\ ∃G a5 a6 a7 a8 b0 a9 b1 b2 b3,aA u 0 9=some [pI G,pS a5,pI a6,pI a7,pS a8,.list 3 b0 a9,pI b1,pS b2,pI b3]/\ ae (G != 1) (K (pB false) f) (Q (IntKind.wrap .i64 (e+1)) f)) (nP a λO U=> ∃b4 n,aN f O U 1=some [.list 12 b4 n]/\ aj (α:=Int) (λs b y=> ae (decide (b<((List.length n:Nat):Int))) (0<=b/\∃(v:List PV),(n)[Int.toNat b]?=some v/\ ∃g i j b5 b6 b7 b8 b9 c0 c1 o c2,aA v 0 12=some [pI g,pS i,pI j,pI b5,pS b6,pI b7,pI b8,pS b9,pI c0,pB c1,pB o,pI c2]/\ (ab prog 87 [pA a,.agg [pI g,pS i,pI j]] y λY d=> ∃H,Y=(pB H)/\ ae (!H) (((K (pB false) d)/\ True)/\ (K (pB false) d)/\ True) (nP a λP V=> ∃p,aN d P (V+13) 1=some [pA p]/\ ((ab prog 88 [pA p,.agg [pI g,pS i,pI j]] d λZ z=> ∃I,Z=(pB I)/\ ae (!(o == I)) (K (pB false) z) (s (IntKind.wrap .i64 (b+1)) z))/\ True)/\ (ab prog 88 [pA p,.agg [pI g,pS i,pI j]] d λa0 A=> ∃J,a0=(pB J)/\ ae (!(o == J)) (K (pB false) A) (s (IntKind.wrap .i64 (b+1)) A))/\ True))/\ True) (K (pB true) y)) (0) f)) (0) w)):ab prog 37 [pA a] u0 K:= VC [4,6,1000001,1000012] [(4,⟨[(34,.one (.raw (.int .i64)))],[]⟩),(10,⟨[(49,.one (.raw (.int .i64)))],[]⟩)] [(3,⟨[],[]⟩)] [] [] [] [] func37 h
theorem sG.c{g:Option Addr}(h: nP g λj2 j5=> ∃l4 u,aN u0 j2 j5 1=some [.list 12 l4 u]/\ aj (α:=Int) (λH o s=> ae (decide (o<((List.length u:Nat):Int))) (0<=o/\∃(M:List PV),(u)[Int.toNat o]?=some M/\ ∃v w x W X Y y z A Z a0 a1,aA M 0 12=some [pI v,pS w,pI x,pI W,pS X,pI Y,pI y,pS z,pI A,pB Z,pB a0,pI a1]/\ ab prog 89 [.agg [pI v,pS w,pI x,pI W,pS X,pI Y,pI y,pS z,pI A,pB Z,pB a0,pI a1]] s λk1 t=> ∃a2,k1=(pB a2)/\ ae (!a2) (H (IntKind.wrap .i64 (o+1)) t) (nP g λj3 j6=> ∃l5 B,aN t j3 (j6+2) 1=some [.list 9 l5 B]/\ aj (α:=Bool×Int) (λr b n=> ae (decide (b.2<((List.length B:Nat):Int))) (0<=b.2/\∃(N:List PV),(B)[Int.toNat b.2]?=some N/\ ∃a3 a4 a5 l6 l7 l9 l8 C a6 a7,aA N 0 9=some [pI a3,pS a4,pI a5,pI l6,pS l7,.list 3 l9 l8,pI C,pS a6,pI a7]/\ ae b.1 (r (true,(IntKind.wrap .i64 (b.2+1))) n) (ae ((a3 == v)&&(aG a4 w&&((a5 == x)&&true))) (ae ((C == y)&&(aG a6 z&&((a7 == A)&&true))) (r ((C != 0),(IntKind.wrap .i64 (b.2+1))) n) (r (false,(IntKind.wrap .i64 (b.2+1))) n)) (r (false,(IntKind.wrap .i64 (b.2+1))) n))) (ae (!b.1) (K (pB false) n) (H (IntKind.wrap .i64 (o+1)) n))) (false,0) t)) (nP g λj4 j7=> ∃m0 D,aN s j4 (j7+2) 1=some [.list 9 m0 D]/\ aj (α:=Int) (λd a e=> ae (decide (a<((List.length D:Nat):Int))) (0<=a/\∃(O:List PV),(D)[Int.toNat a]?=some O/\ ∃i j k m1 m2 m4 m3 f l m,aA O 0 9=some [pI i,pS j,pI k,pI m1,pS m2,.list 3 m4 m3,pI f,pS l,pI m]/\ ae (f != 0) (nP g λE I=> (∃a8,aN e E (I+14) 1=some [pA a8]/\ (ab prog 91 [.agg [pI i,pS j,pI k],.agg [pI f,pS l,pI m],pB false] e λk2 j9=> ∃b0 b2 b4 b6 b8 c0 c2 c4 c6 c8 d0 d2,k2=(.agg [pI b0,pS b2,pI b4,pI b6,pS b8,pI c0,pI c2,pS c4,pI c6,pB c8,pB d0,pI d2])/\ (ab prog 90 [pA a8,.agg [pI b0,pS b2,pI b4,pI b6,pS b8,pI c0,pI c2,pS c4,pI c6,pB c8,pB d0,pI d2]] j9 λk6 q=> ∃d4,k6=(pB d4)/\ ae (!d4) ((((K (pB false) q)/\ True)/\ True)/\ ((K (pB false) q)/\ True)/\ True) (nP g λF J=> (∃d6,aN q F (J+14) 1=some [pA d6]/\ (ab prog 91 [.agg [pI i,pS j,pI k],.agg [pI f,pS l,pI m],pB true] q λk7 k0=> ∃e0 e4 e8 f2 f6 g0 g4 g8 h2 h6 i0 i4,k7=(.agg [pI e0,pS e4,pI e8,pI f2,pS f6,pI g0,pI g4,pS g8,pI h2,pB h6,pB i0,pI i4])/\ (ab prog 90 [pA d6,.agg [pI e0,pS e4,pI e8,pI f2,pS f6,pI g0,pI g4,pS g8,pI h2,pB h6,pB i0,pI i4]] k0 λk8 T=> ∃i8,k8=(pB i8)/\ ae (!i8) (K (pB false) T) (d (IntKind.wrap .i64 (a+1)) T))/\ True)/\ True)/\ (ab prog 91 [.agg [pI i,pS j,pI k],.agg [pI f,pS l,pI m],pB true] q λk9 U=> ∃e1 e5 e9 f3 f7 g1 g5 g9 h3 h7 i1 i5,k9=(.agg [pI e1,pS e5,pI e9,pI f3,pS f7,pI g1,pI g5,pS g9,pI h3,pB h7,pB i1,pI i5])/\ ∃d7,aN U F (J+14) 1=some [pA d7]/\ (ab prog 90 [pA d7,.agg [pI e1,pS e5,pI e9,pI f3,pS f7,pI g1,pI g5,pS g9,pI h3,pB h7,pB i1,pI i5]] U λl0 V=> ∃i9,l0=(pB i9)/\ ae (!i9) (K (pB false) V) (d (IntKind.wrap .i64 (a+1)) V))/\ True)/\ True))/\ True)/\ True)/\ (ab prog 91 [.agg [pI i,pS j,pI k],.agg [pI f,pS l,pI m],pB false] e λl1 P=> ∃b1 b3 b5 b7 b9 c1 c3 c5 c7 c9 d1 d3,l1=(.agg [pI b1,pS b3,pI b5,pI b7,pS b9,pI c1,pI c3,pS c5,pI c7,pB c9,pB d1,pI d3])/\ ∃a9,aN P E (I+14) 1=some [pA a9]/\ (ab prog 90 [pA a9,.agg [pI b1,pS b3,pI b5,pI b7,pS b9,pI c1,pI c3,pS c5,pI c7,pB c9,pB d1,pI d3]] P λl2 p=> ∃d5,l2=(pB d5)/\ ae (!d5) ((((K (pB false) p)/\ True)/\ True)/\ ((K (pB false) p)/\ True)/\ True) (nP g λG L=> (∃d8,aN p G (L+14) 1=some [pA d8]/\ (ab prog 91 [.agg [pI i,pS j,pI k],.agg [pI f,pS l,pI m],pB true] p λl3 j8=> ∃e2 e6 f0 f4 f8 g2 g6 h0 h4 h8 i2 i6,l3=(.agg [pI e2,pS e6,pI f0,pI f4,pS f8,pI g2,pI g6,pS h0,pI h4,pB h8,pB i2,pI i6])/\ (ab prog 90 [pA d8,.agg [pI e2,pS e6,pI f0,pI f4,pS f8,pI g2,pI g6,pS h0,pI h4,pB h8,pB i2,pI i6]] j8 λk3 Q=> ∃j0,k3=(pB j0)/\ ae (!j0) (K (pB false) Q) (d (IntKind.wrap .i64 (a+1)) Q))/\ True)/\ True)/\ (ab prog 91 [.agg [pI i,pS j,pI k],.agg [pI f,pS l,pI m],pB true] p λk4 R=> ∃e3 e7 f1 f5 f9 g3 g7 h1 h5 h9 i3 i7,k4=(.agg [pI e3,pS e7,pI f1,pI f5,pS f9,pI g3,pI g7,pS h1,pI h5,pB h9,pB i3,pI i7])/\ ∃d9,aN R G (L+14) 1=some [pA d9]/\ (ab prog 90 [pA d9,.agg [pI e3,pS e7,pI f1,pI f5,pS f9,pI g3,pI g7,pS h1,pI h5,pB h9,pB i3,pI i7]] R λk5 S=> ∃j1,k5=(pB j1)/\ ae (!j1) (K (pB false) S) (d (IntKind.wrap .i64 (a+1)) S))/\ True)/\ True))/\ True)/\ True) (((((((d (IntKind.wrap .i64 (a+1)) e)/\ True)/\ True)/\ ((d (IntKind.wrap .i64 (a+1)) e)/\ True)/\ True)/\ True)/\ True)/\ (((((d (IntKind.wrap .i64 (a+1)) e)/\ True)/\ True)/\ ((d (IntKind.wrap .i64 (a+1)) e)/\ True)/\ True)/\ True)/\ True)) (K (pB true) e)) (0) s)) (0) u0):ab prog 38 [pA g] u0 K:= VC [4,7,9,1000017] [(2,⟨[(16,.one (.raw (.int .i64)))],[]⟩),(7,⟨[(5,.one (.raw .bool)),(29,.one (.raw (.int .i64)))],[]⟩),(15,⟨[(64,.one (.raw (.int .i64)))],[]⟩)] [] [] [] [] [] func38 h
theorem sF.c{a:Option Addr}(h: ab prog 30 [.list 1 .nil []] u0 λH n=> ∃j,H=(pA j)/\ nP a λB E=> ∃N g,aN n B (E+3) 1=some [.list 5 N g]/\ aj (α:=Int) (λD d e=> ae (decide (d<((List.length g:Nat):Int))) (0<=d/\∃(l:List PV),(g)[Int.toNat d]?=some l/\ ∃r O P R Q S,aA l 0 5=some [pI r,pI O,pS P,.list 1 R Q,pB S]/\ ab prog 33 [pA j,pI r] e λI G=> ∃T,I=(pB T)/\ D (IntKind.wrap .i64 (d+1)) G) (nP a λC F=> ∃U i,aN e C (F+1) 1=some [.list 16 U i]/\ aj (α:=Int) (λk b o=> ae (decide (b<((List.length i:Nat):Int))) (0<=b/\∃(m:List PV),(i)[Int.toNat b]?=some m/\ ∃s t u V W X Y Z a0 a1 a2 a3 a4 v w x,aA m 0 16=some [pI s,pS t,pI u,pI V,pS W,pI X,pI Y,pS Z,pI a0,pI a1,pS a2,pI a3,pI a4,pB v,pI w,pI x]/\ ab prog 87 [pA a,.agg [pI s,pS t,pI u]] o λJ p=> ∃y,J=(pB y)/\ ae (!y) (K (pB false) p) (ab prog 92 [pA a,pI w] p λL f=> ∃z,L=(pB z)/\ ae (!z) (K (pB false) f) (ae (!v) (ab prog 65 [pA j,pI x] f λM q=> ∃A,M=(pB A)/\ ae (!A) (K (pB false) q) (k (IntKind.wrap .i64 (b+1)) q)) (k (IntKind.wrap .i64 (b+1)) f)))) (K (pB true) o)) (0) e)) (0) n):ab prog 39 [pA a] u0 K:= VC [5,7] [(3,⟨[(15,.one (.raw (.int .i64)))],[]⟩),(8,⟨[(30,.one (.raw (.int .i64)))],[]⟩)] [] [] [] [] [] func39 h
theorem sE.c{q:Option Addr}(h: ca u0 86 [pA q] λe b6=> ca b6 4 [pB false] λa i=> ∃a8,aN i e 0 1=some [pA a8]/\ nP a8 λa9 b2=> ∃C B,aN i a9 (b2+1) 1=some [.list 16 C B]/\ ab prog 93 [.list 16 C B] i λc0 b7=> ∃k,c0=(pA k)/\ ab prog 94 [pA k] b7 λc1 b8=> ∃D E F,c1=(.fn D E F)/\ bJ prog (.fn D E F) (λc5 g z=> ∃l m n G H I J L M N O P,c5=[.agg [pI l,pS m,pI n,pI G,pS H,pI I,pI J,pS L,pI M,pB N,pB O,pI P]]/\ ∃Q,aN z e 0 1=some [pA Q]/\ (ab prog 87 [pA Q,.agg [pI l,pS m,pI n]] z λc2 f=> ∃R,c2=(pB R)/\ ae R (∃S,aN f e 0 1=some [pA S]/\ nP S λb0 b3=> ∃T,aN f b0 (b3+14) 1=some [pA T]/\ (ab prog 90 [pA T,.agg [pI l,pS m,pI n,pI G,pS H,pI I,pI J,pS L,pI M,pB N,pB O,pI P]] f λc3 A=> ∃U,c3=(pB U)/\ ae (!U) (stM a 0 [pB false] A λb9=> g (some .ret) b9) (g none A))/\ True) ((g none f)/\ True))/\ True) (λb5 d=> PK b5 (∃V,aN d e 0 1=some [pA V]/\ nP V λb1 b4=> ∃c6 o,aN d b1 b4 1=some [.list 12 c6 o]/\ aj (α:=Int) (λr b j=> ae (decide (b<((List.length o:Nat):Int))) (0<=b/\∃(v:List PV),(o)[Int.toNat b]?=some v/\ ∃W X Y Z a0 a1 a2 a3 a4 p a5 a6,aA v 0 12=some [pI W,pS X,pI Y,pI Z,pS a0,pI a1,pI a2,pS a3,pI a4,pB p,pB a5,pI a6]/\ ae p (ab prog 90 [pA k,.agg [pI W,pS X,pI Y,pI Z,pS a0,pI a1,pI a2,pS a3,pI a4,pB p,pB a5,pI a6]] j λc4 w=> ∃a7,c4=(pB a7)/\ ae (!a7) (stM a 0 [pB false] w λx=> ∃s,aN x a 0 1=some [pB s]/\ K (pB s) x) (r (IntKind.wrap .i64 (b+1)) w)) (r (IntKind.wrap .i64 (b+1)) j)) (stM a 0 [pB true] j λy=> ∃t,aN y a 0 1=some [pB t]/\ K (pB t) y)) (0) d) (∃u,aN d a 0 1=some [pB u]/\ K (pB u) d) []) b8):ab prog 40 [pA q] u0 K:= VC [4,6,1000004] [(7,⟨[(35,.one (.raw (.int .i64)))],[]⟩)] [] [(15,[60])] [] [] [] func40 h
theorem sD.c{b:Option Addr}(h: nP b λr t=> ∃C f,aN u0 r (t+3) 1=some [.list 5 C f]/\ aj (α:=Int) (λg a d=> ae (decide (a<((List.length f:Nat):Int))) (0<=a/\∃(i:List PV),(f)[Int.toNat a]?=some i/\ ∃m e x z y A,aA i 0 5=some [pI m,pI e,pS x,.list 1 z y,pB A]/\ ae (decide (a>0)) (nP b λs u=> ∃B n,aN d s (u+3) 1=some [.list 5 B n]/\ 0<=(IntKind.wrap .i64 (a-1))/\∃(j:List PV),(n)[Int.toNat (IntKind.wrap .i64 (a-1))]?=some j/\ ∃o,aA j 0 1=some [pI o]/\ ae (decide (m<=o)) (K (pB false) d) (ab prog 92 [pA b,pI e] d λv k=> ∃p,v=(pB p)/\ ae (!p) (K (pB false) k) (g (IntKind.wrap .i64 (a+1)) k))) (ab prog 92 [pA b,pI e] d λw l=> ∃q,w=(pB q)/\ ae (!q) (K (pB false) l) (g (IntKind.wrap .i64 (a+1)) l))) (K (pB true) d)) (0) u0):ab prog 41 [pA b] u0 K:= VC [4] [(2,⟨[(11,.one (.raw (.int .i64)))],[]⟩)] [] [] [] [] [] func41 h
theorem sC.c{b:Option Addr}(h: nP b λx D=> ∃L q,aN u0 x (D+4) 1=some [.list 1 L q]/\ nP b λy E=> ∃M r,aN u0 y (E+2) 1=some [.list 9 M r]/\ ae (((List.length q:Nat):Int) != (IntKind.wrap .i64 (((List.length r:Nat):Int)-1))) (K (pB false) u0) (nP b λz F=> ∃N i,aN u0 z (F+4) 1=some [.list 1 N i]/\ aj (α:=Int) (λC e n=> ae (decide (e<((List.length i:Nat):Int))) (0<=e/\∃(k:List PV),(i)[Int.toNat e]?=some k/\ ∃O f,aA k 0 1=some [.list 1 O f]/\ aj (α:=Int) (λj a d=> ae (decide (a<((List.length f:Nat):Int))) (0<=a/\∃(l:List PV),(f)[Int.toNat a]?=some l/\ ∃g,aA l 0 1=some [pI g]/\ ae (decide (a>0)) (0<=(IntKind.wrap .i64 (a-1))/\∃(m:List PV),(f)[Int.toNat (IntKind.wrap .i64 (a-1))]?=some m/\ ∃s,aA m 0 1=some [pI s]/\ ae (decide (g<=s)) (K (pB false) d) (nP b λA G=> ∃t,aN d A (G+15) 1=some [pA t]/\ ab prog 65 [pA t,pI g] d λI o=> ∃v,I=(pB v)/\ ae (!v) (K (pB false) o) (j (IntKind.wrap .i64 (a+1)) o))) (nP b λB H=> ∃u,aN d B (H+15) 1=some [pA u]/\ ab prog 65 [pA u,pI g] d λJ p=> ∃w,J=(pB w)/\ ae (!w) (K (pB false) p) (j (IntKind.wrap .i64 (a+1)) p))) (C (IntKind.wrap .i64 (e+1)) d)) (0) n) (K (pB true) n)) (0) u0)):ab prog 42 [pA b] u0 K:= VC [] [(4,⟨[(27,.one (.raw (.int .i64)))],[]⟩),(7,⟨[(33,.one (.raw (.int .i64)))],[]⟩)] [] [] [] [] [] func42 h
theorem ui.c{R T V X Z a1:Fl}{b S U W Y a0:Lq}{a2 a3 a4 a5 a6 a7 a8:Int}(h: aj (α:=Int) (λa9 a d=> ae (decide (a<((List.length b:Nat):Int))) (cw (α:=Unit) (λf=> 0<=a/\∃(g:List PV),(b)[Int.toNat a]?=some g/\ ∃o,aA g 11 1=some [pI o]/\ ae (decide (o<1)) (K (pB false) d) (ae (decide (a>0)) (0<=a/\∃(i:List PV),(b)[Int.toNat a]?=some i/\ ∃p,aA i 11 1=some [pI p]/\ 0<=(IntKind.wrap .i64 (a-1))/\∃(j:List PV),(b)[Int.toNat (IntKind.wrap .i64 (a-1))]?=some j/\ ∃q,aA j 11 1=some [pI q]/\ ae (decide (p<=q)) (K (pB false) d) (f () d)) (f () d))) (λb3 b1=> aj (α:=Int) (λb0 e m=> ae (decide (e<a)) (0<=a/\∃(k:List PV),(b)[Int.toNat a]?=some k/\ ∃r s t u v w x y z A B C,aA k 0 12=some [pI r,pS s,pI t,pI u,pS v,pI w,pI x,pS y,pI z,pB A,pB B,pI C]/\ 0<=e/\∃(l:List PV),(b)[Int.toNat e]?=some l/\ ∃D E F G H I J L M N O P,aA l 0 12=some [pI D,pS E,pI F,pI G,pS H,pI I,pI J,pS L,pI M,pB N,pB O,pI P]/\ ab prog 95 [.agg [pI r,pS s,pI t,pI u,pS v,pI w,pI x,pS y,pI z,pB A,pB B,pI C],.agg [pI D,pS E,pI F,pI G,pS H,pI I,pI J,pS L,pI M,pB N,pB O,pI P]] m λb2 n=> ∃Q,b2=(pB Q)/\ ae Q (K (pB false) n) (b0 (IntKind.wrap .i64 (e+1)) n)) (a9 (IntKind.wrap .i64 (a+1)) m)) (0) b1)) (K (pB true) d)) (0) u0):ab prog 43 [.agg [.list 12 R b,.list 16 T S,.list 9 V U,.list 5 X W,.list 1 Z Y,.list 1 a1 a0,pI a2,pI a3,pI a4,pI a5,pI a6,pI a7,pI a8]] u0 K:= VC [1] [(2,⟨[(3,.one (.raw (.int .i64)))],[]⟩),(7,⟨[(4,.one (.raw (.int .i64)))],[]⟩)] [(6,⟨[],[]⟩)] [] [] [] [] func43 h
theorem ug.c{o a3 a4 a5 a6 a7:Fl}{e p q r s t:Lq}{u v w x y z A:Int}(h: ab prog 96 [.agg [.list 12 .sh e,.list 16 .sh p,.list 9 .sh q,.list 5 .sh r,.list 1 .sh s,.list 1 .sh t,pI u,pI v,pI w,pI x,pI y,pI z,pI A]] u0 λb1 a9=> ∃g b,b1=(.list 3 g b)/\ aj (α:=Int) (λa8 d n=> ae (decide (d<((List.length b:Nat):Int))) (0<=d/\∃(B:List PV),(b)[Int.toNat d]?=some B/\ ∃M,aA B 0 1=some [pI M]/\ ae (M != 1) (K (pB false) n) ((0:Int)<=(0:Int)/\0<=d/\d<=((List.length b:Nat):Int)/\ 0<=d/\∃(C:List PV),(b)[Int.toNat d]?=some C/\ ∃N O P,aA C 0 3=some [pI N,pS O,pI P]/\ ab prog 97 [.list 3 .sh (List.drop (Int.toNat (0:Int)) (List.take (Int.toNat d) b)),.agg [pI N,pS O,pI P]] n λb2 G=> ∃Q,b2=(pB Q)/\ ae Q (K (pB false) G) (a8 (IntKind.wrap .i64 (d+1)) G))) (ab prog 98 [.list 3 g b,.list 12 o e] n λb3 b0=> ∃S R,b3=(.list 4 S R)/\ aj (α:=Int) (λl a H=> ae (decide (a<((List.length e:Nat):Int))) (0<=a/\∃(D:List PV),(e)[Int.toNat a]?=some D/\ ∃T U V,aA D 0 3=some [pI T,pS U,pI V]/\ (ab prog 99 [.list 4 S R,.agg [pI T,pS U,pI V]] H λb4 f=> ∃W,b4=(pI W)/\ ae (W == 0) ((((K (pB false) f)/\ True)/\ (K (pB false) f)/\ True)/\ (K (pB false) f)/\ True) (0<=a/\∃(F:List PV),(e)[Int.toNat a]?=some F/\ ∃i j k,aA F 0 3=some [pI i,pS j,pI k]/\ (0<=a/\∃(m:List PV),(e)[Int.toNat a]?=some m/\ (∃X,aA m 10 1=some [pB X]/\ (ab prog 97 [.list 3 g b,.agg [pI i,pS j,pI k]] f λb5 I=> ∃a0,b5=(pB a0)/\ ae (!(X == a0)) (K (pB false) I) (l (IntKind.wrap .i64 (a+1)) I))/\ True)/\ (ab prog 97 [.list 3 g b,.agg [pI i,pS j,pI k]] f λb6 J=> ∃a1,b6=(pB a1)/\ ∃Y,aA m 10 1=some [pB Y]/\ ae (!(Y == a1)) (K (pB false) J) (l (IntKind.wrap .i64 (a+1)) J))/\ True)/\ (ab prog 97 [.list 3 g b,.agg [pI i,pS j,pI k]] f λb7 L=> ∃a2,b7=(pB a2)/\ 0<=a/\∃(E:List PV),(e)[Int.toNat a]?=some E/\ ∃Z,aA E 10 1=some [pB Z]/\ ae (!(Z == a2)) (K (pB false) L) (l (IntKind.wrap .i64 (a+1)) L))/\ True))/\ True) (K (pB (decide (((List.length b:Nat):Int)>0))) H)) (0) b0)) (0) a9):ab prog 44 [.agg [.list 12 o e,.list 16 a3 p,.list 9 a4 q,.list 5 a5 r,.list 1 a6 s,.list 1 a7 t,pI u,pI v,pI w,pI x,pI y,pI z,pI A]] u0 K:= VC [1,1000011] [(3,⟨[(4,.one (.raw (.int .i64)))],[]⟩),(9,⟨[(6,.one (.raw (.int .i64)))],[]⟩)] [] [] [] [] [] func44 h
theorem qE.c{m d4 d5 d7 d9 e1:Fl}{e d3 b d6 d8 e0:Lq}{e2 e3 e4 e5 e6 e7 e8:Int}(h: aj (α:=Int) (λC f I=> ae (decide (f<((List.length e:Nat):Int))) (0<=f/\∃(E:List PV),(e)[Int.toNat f]?=some E/\ ∃p q r a1 a2 a3 k s t a4 a5 a6,aA E 0 12=some [pI p,pS q,pI r,pI a1,pS a2,pI a3,pI k,pS s,pI t,pB a4,pB a5,pI a6]/\ ab prog 100 [.agg [pI p,pS q,pI r,pI a1,pS a2,pI a3,pI k,pS s,pI t,pB a4,pB a5,pI a6]] I λg1 J=> ∃a7,g1=(pB a7)/\ ae (!a7) (C (IntKind.wrap .i64 (f+1)) J) (aj (α:=Bool×Int) (λj a d=> ae (decide (a.2<((List.length b:Nat):Int))) (ae a.1 (j (true,(IntKind.wrap .i64 (a.2+1))) d) (0<=a.2/\∃(F:List PV),(b)[Int.toNat a.2]?=some F/\ ∃a8 a9 b0,aA F 0 3=some [pI a8,pS a9,pI b0]/\ ae ((a8 == p)&&(aG a9 q&&((b0 == r)&&true))) (0<=a.2/\∃(G:List PV),(b)[Int.toNat a.2]?=some G/\ ∃b1 b2 b3,aA G 6 3=some [pI b1,pS b2,pI b3]/\ ae ((b1 == k)&&(aG b2 s&&((b3 == t)&&true))) (j ((k != 0),(IntKind.wrap .i64 (a.2+1))) d) (j (false,(IntKind.wrap .i64 (a.2+1))) d)) (j (false,(IntKind.wrap .i64 (a.2+1))) d))) (ae (!a.1) (K (pB false) d) (C (IntKind.wrap .i64 (f+1)) d))) (false,0) J)) (aj (α:=Int) (λD g i=> ae (decide (g<((List.length b:Nat):Int))) (0<=g/\∃(H:List PV),(b)[Int.toNat g]?=some H/\ ∃u v w h8 h9 i1 i0 l x y,aA H 0 9=some [pI u,pS v,pI w,pI h8,pS h9,.list 3 i1 i0,pI l,pS x,pI y]/\ ae (l == 0) (D (IntKind.wrap .i64 (g+1)) i) (cw (α:=Option Addr) (λz=> (dg prog 101 [pS ⟨#[111,112,101,114,97,116,111,114]⟩] i λg2 f7=> ∃b4 b6 b8,g2=(.agg [pI b4,pS b6,pI b8])/\ ca (Mem.or i f7) 60 [pI 0,pS ⟨#[]⟩,pI 0,pI 0,pS ⟨#[]⟩,pI 0,pI 0,pS ⟨#[]⟩,pI 0,pB false,pB false,pI 0] λA f8=> stM A 0 [pI u,pS v,pI w,pI b4,pS b6,pI b8,pI l,pS x,pI y,pB false,pB false,pI 0] f8 λf9=> z (some ⟨A,0,none⟩) f9)/\ (ca i 60 [pI 0,pS ⟨#[]⟩,pI 0,pI 0,pS ⟨#[]⟩,pI 0,pI 0,pS ⟨#[]⟩,pI 0,pB false,pB false,pI 0] λB N=> dg prog 101 [pS ⟨#[111,112,101,114,97,116,111,114]⟩] N λg3 g0=> ∃b5 b7 b9,g3=(.agg [pI b5,pS b7,pI b9])/\ stM B 0 [pI u,pS v,pI w,pI b5,pS b7,pI b9,pI l,pS x,pI y,pB false,pB false,pI 0] (Mem.or N g0) λf5=> z (some ⟨B,0,none⟩) f5)) (λn M=> bD (pA n) λe9 f2=> ∃c0 c1 c2 c3 c4 c5 c6 c7 c8 c9 d0 d1,aN M e9 f2 12=some [pI c0,pS c1,pI c2,pI c3,pS c4,pI c5,pI c6,pS c7,pI c8,pB c9,pB d0,pI d1]/\ ab prog 102 [.list 12 m e,.agg [pI c0,pS c1,pI c2,pI c3,pS c4,pI c5,pI c6,pS c7,pI c8,pB c9,pB d0,pI d1]] M λg4 f6=> ∃i2 i3 i4 i5 i6 i7 i8 i9 j0 j1 j2 j3 d2,g4=(.aC [.agg [pI i2,pS i3,pI i4,pI i5,pS i6,pI i7,pI i8,pS i9,pI j0,pB j1,pB j2,pI j3],pB d2])/\ bD (pA n) λf0 f3=> stM f0 (f3+9) [pB true] f6 λL=> bD (pA n) λf1 f4=> ∃O P Q R S T U V W X Y Z,aN L f1 f4 12=some [pI O,pS P,pI Q,pI R,pS S,pI T,pI U,pS V,pI W,pB X,pB Y,pI Z]/\ ab prog 102 [.list 12 m e,.agg [pI O,pS P,pI Q,pI R,pS S,pI T,pI U,pS V,pI W,pB X,pB Y,pI Z]] L λg5 o=> ∃g6 g7 g8 g9 h0 h1 h2 h3 h4 h5 h6 h7 a0,g5=(.aC [.agg [pI g6,pS g7,pI g8,pI g9,pS h0,pI h1,pI h2,pS h3,pI h4,pB h5,pB h6,pI h7],pB a0])/\ ae (!d2) (K (pB false) o) (ae (!a0) (K (pB false) o) (D (IntKind.wrap .i64 (g+1)) o))))) (K (pB true) i)) (0) I)) (0) u0):ab prog 45 [.agg [.list 12 m e,.list 16 d4 d3,.list 9 d5 b,.list 5 d7 d6,.list 1 d9 d8,.list 1 e1 e0,pI e2,pI e3,pI e4,pI e5,pI e6,pI e7,pI e8]] u0 K:= VC [1,4,8,10,12] [(2,⟨[(3,.one (.raw (.int .i64)))],[]⟩),(8,⟨[(5,.one (.raw .bool)),(6,.one (.raw (.int .i64)))],[]⟩),(14,⟨[(7,.one (.raw (.int .i64)))],[]⟩)] [(19,⟨[(9,.one (.raw .ptr))],[]⟩)] [] [] [] [] func45 h
theorem so.c{l L M N O P:Fl}{i b j d m n:Lq}{o p q r s t u:Int}(h: dg prog 96 [.agg [.list 12 .sh i,.list 16 .sh b,.list 9 .sh j,.list 5 .sh d,.list 1 .sh m,.list 1 .sh n,pI o,pI p,pI q,pI r,pI s,pI t,pI u]] u0 λT R=> ∃J I,T=(.list 3 J I)/\ ab prog 98 [.list 3 J I,.list 12 l i] (Mem.or u0 R) λU S=> ∃A z,U=(.list 4 A z)/\ aj (α:=Int) (λQ e y=> ae (decide (e<((List.length b:Nat):Int))) (0<=e/\∃(w:List PV),(b)[Int.toNat e]?=some w/\ ∃B C D W X Y Z a0 a1 a2 a3 a4 a5 E k F,aA w 0 16=some [pI B,pS C,pI D,pI W,pS X,pI Y,pI Z,pS a0,pI a1,pI a2,pS a3,pI a4,pI a5,pB E,pI k,pI F]/\ ab prog 99 [.list 4 A z,.agg [pI B,pS C,pI D]] y λV f=> ∃G,V=(pI G)/\ ae (G == 0) (K (pB false) f) (ae (decide (k<1)) (K (pB false) f) (ae (decide (k>((List.length j:Nat):Int))) (K (pB false) f) (aj (α:=Bool×Int) (λv a g=> ae (decide (a.2<((List.length d:Nat):Int))) (ae a.1 (v (true,(IntKind.wrap .i64 (a.2+1))) g) (0<=a.2/\∃(x:List PV),(d)[Int.toNat a.2]?=some x/\ ∃H,aA x 0 1=some [pI H]/\ v ((H == F),(IntKind.wrap .i64 (a.2+1))) g)) (ae (!a.1) (K (pB false) g) (Q (IntKind.wrap .i64 (e+1)) g))) (E,0) f)))) (K (pB true) y)) (0) S):ab prog 46 [.agg [.list 12 l i,.list 16 L b,.list 9 M j,.list 5 N d,.list 1 O m,.list 1 P n,pI o,pI p,pI q,pI r,pI s,pI t,pI u]] u0 K:= VC [1,5] [(3,⟨[(4,.one (.raw (.int .i64)))],[]⟩),(10,⟨[(6,.one (.raw .bool)),(7,.one (.raw (.int .i64)))],[]⟩)] [] [] [] [] [] func46 h
theorem sq.c{f x e2 e3 e4 e5:Fl}{a g y z A B:Lq}{C D E F G H I:Int}(h: dg prog 96 [.agg [.list 12 .sh a,.list 16 .sh g,.list 9 .sh y,.list 5 .sh z,.list 1 .sh A,.list 1 .sh B,pI C,pI D,pI E,pI F,pI G,pI H,pI I]] u0 λf8 e9=> ∃U T,f8=(.list 3 U T)/\ ab prog 98 [.list 3 U T,.list 12 f a] (Mem.or u0 e9) λf9 f0=> ∃W V,f9=(.list 4 W V)/\ ab prog 103 [.list 16 x g] f0 λg0 f2=> ∃X e,g0=(.list 12 X e)/\ aj (α:=Int) (λJ b j=> ae (decide (b<((List.length e:Nat):Int))) (cw (α:=Bool) (λw=> 0<=b/\∃(M:List PV),(e)[Int.toNat b]?=some M/\ ∃k l m n o p q r s t u v,aA M 0 12=some [pI k,pS l,pI m,pI n,pS o,pI p,pI q,pS r,pI s,pB t,pB u,pI v]/\ (ab prog 102 [.list 12 f a,.agg [pI k,pS l,pI m,pI n,pS o,pI p,pI q,pS r,pI s,pB t,pB u,pI v]] j λg1 f3=> ∃Y a0 a2 a4 a6 a8 b0 b2 b4 b6 b8 c0 c2,g1=(.aC [.agg [pI Y,pS a0,pI a2,pI a4,pS a6,pI a8,pI b0,pS b2,pI b4,pB b6,pB b8,pI c0],pB c2])/\ ca f3 60 [pI 0,pS ⟨#[]⟩,pI 0,pI 0,pS ⟨#[]⟩,pI 0,pI 0,pS ⟨#[]⟩,pI 0,pB false,pB false,pI 0] λe6 f4=> stM e6 0 [pI Y,pS a0,pI a2,pI a4,pS a6,pI a8,pI b0,pS b2,pI b4,pB b6,pB b8,pI c0] f4 λf5=> w c2 f5)/\ (ca j 60 [pI 0,pS ⟨#[]⟩,pI 0,pI 0,pS ⟨#[]⟩,pI 0,pI 0,pS ⟨#[]⟩,pI 0,pB false,pB false,pI 0] λe7 f6=> ab prog 102 [.list 12 f a,.agg [pI k,pS l,pI m,pI n,pS o,pI p,pI q,pS r,pI s,pB t,pB u,pI v]] f6 λg2 f7=> ∃Z a1 a3 a5 a7 a9 b1 b3 b5 b7 b9 c1 c3,g2=(.aC [.agg [pI Z,pS a1,pI a3,pI a5,pS a7,pI a9,pI b1,pS b3,pI b5,pB b7,pB b9,pI c1],pB c3])/\ stM e7 0 [pI Z,pS a1,pI a3,pI a5,pS a7,pI a9,pI b1,pS b3,pI b5,pB b7,pB b9,pI c1] f7 λf1=> w c3 f1)) (λe8 S=> ae (!e8) (0<=b/\∃(N:List PV),(e)[Int.toNat b]?=some N/\ ∃c4 c5 c6,aA N 0 3=some [pI c4,pS c5,pI c6]/\ ab prog 99 [.list 4 W V,.agg [pI c4,pS c5,pI c6]] S λg3 Q=> ∃c7,g3=(pI c7)/\ ae (decide (c7>0)) (K (pB false) Q) (J (IntKind.wrap .i64 (b+1)) Q)) (J (IntKind.wrap .i64 (b+1)) S))) (aj (α:=Int) (λL d R=> ae (decide (d<((List.length a:Nat):Int))) (0<=d/\∃(O:List PV),(a)[Int.toNat d]?=some O/\ ∃c8 c9 d0 d1 d2 d3 d4 d5 d6 d7 d8 d9,aA O 0 12=some [pI c8,pS c9,pI d0,pI d1,pS d2,pI d3,pI d4,pS d5,pI d6,pB d7,pB d8,pI d9]/\ ab prog 102 [.list 12 X e,.agg [pI c8,pS c9,pI d0,pI d1,pS d2,pI d3,pI d4,pS d5,pI d6,pB d7,pB d8,pI d9]] R λg4 i=> ∃g5 g6 g7 g8 g9 h0 h1 h2 h3 h4 h5 h6 e0,g4=(.aC [.agg [pI g5,pS g6,pI g7,pI g8,pS g9,pI h0,pI h1,pS h2,pI h3,pB h4,pB h5,pI h6],pB e0])/\ 0<=d/\∃(P:List PV),(a)[Int.toNat d]?=some P/\ ∃e1,aA P 9 1=some [pB e1]/\ ae e1 (ae (!e0) (K (pB false) i) (L (IntKind.wrap .i64 (d+1)) i)) (L (IntKind.wrap .i64 (d+1)) i)) (K (pB true) R)) (0) j)) (0) f2):ab prog 47 [.agg [.list 12 f a,.list 16 x g,.list 9 e2 y,.list 5 e3 z,.list 1 e4 A,.list 1 e5 B,pI C,pI D,pI E,pI F,pI G,pI H,pI I]] u0 K:= VC [1,9] [(4,⟨[(5,.one (.raw (.int .i64)))],[]⟩),(10,⟨[(8,.one (.raw (.int .i64)))],[]⟩)] [(7,⟨[(7,.one (.raw .bool))],[]⟩)] [] [] [] [] func47 h
theorem uh.c{q s t u w y:Fl}{p r e b v x:Lq}{z A B C D E F:Int}(h: aj (α:=Int) (λf a d=> ae (decide (a<((List.length b:Nat):Int))) (0<=a/\∃(g:List PV),(b)[Int.toNat a]?=some g/\ ∃l,aA g 1 1=some [pI l]/\ ae (decide (l<1)) (K (pB false) d) (0<=a/\∃(i:List PV),(b)[Int.toNat a]?=some i/\ ∃m,aA i 1 1=some [pI m]/\ ae (decide (m>((List.length e:Nat):Int))) (K (pB false) d) (ae (decide (a>0)) (0<=a/\∃(j:List PV),(b)[Int.toNat a]?=some j/\ ∃n,aA j 0 1=some [pI n]/\ 0<=(IntKind.wrap .i64 (a-1))/\∃(k:List PV),(b)[Int.toNat (IntKind.wrap .i64 (a-1))]?=some k/\ ∃o,aA k 0 1=some [pI o]/\ ae (decide (n<=o)) (K (pB false) d) (f (IntKind.wrap .i64 (a+1)) d)) (f (IntKind.wrap .i64 (a+1)) d)))) (K (pB true) d)) (0) u0):ab prog 48 [.agg [.list 12 q p,.list 16 s r,.list 9 t e,.list 5 u b,.list 1 w v,.list 1 y x,pI z,pI A,pI B,pI C,pI D,pI E,pI F]] u0 K:= VC [1] [(2,⟨[(3,.one (.raw (.int .i64)))],[]⟩)] [] [] [] [] [] func48 h
theorem qF.c{E F G H I J:Fl}{i j g k b l:Lq}{m n o p q r s:Int}(h: ae (((List.length b:Nat):Int) != (IntKind.wrap .i64 (((List.length g:Nat):Int)-1))) (K (pB false) u0) (aj (α:=Int) (λL e y=> ae (decide (e<((List.length b:Nat):Int))) (0<=e/\∃(u:List PV),(b)[Int.toNat e]?=some u/\ ∃N d,aA u 0 1=some [.list 1 N d]/\ aj (α:=Int) (λt a z=> ae (decide (a<((List.length d:Nat):Int))) (0<=a/\∃(v:List PV),(d)[Int.toNat a]?=some v/\ ∃A,aA v 0 1=some [pI A]/\ (ab prog 63 [.agg [.list 12 .sh i,.list 16 .sh j,.list 9 .sh g,.list 5 .sh k,.list 1 .sh b,.list 1 .sh l,pI m,pI n,pI o,pI p,pI q,pI r,pI s],pI A] z λM f=> ∃B,M=(pB B)/\ ae (!B) (K (pB false) f) (ae (decide (a>0)) (0<=a/\∃(w:List PV),(d)[Int.toNat a]?=some w/\ ∃C,aA w 0 1=some [pI C]/\ 0<=(IntKind.wrap .i64 (a-1))/\∃(x:List PV),(d)[Int.toNat (IntKind.wrap .i64 (a-1))]?=some x/\ ∃D,aA x 0 1=some [pI D]/\ ae (decide (C<=D)) (K (pB false) f) (t (IntKind.wrap .i64 (a+1)) f)) (t (IntKind.wrap .i64 (a+1)) f)))/\ True) (L (IntKind.wrap .i64 (e+1)) z)) (0) y) (K (pB true) y)) (0) u0)):ab prog 49 [.agg [.list 12 E i,.list 16 F j,.list 9 G g,.list 5 H k,.list 1 I b,.list 1 J l,pI m,pI n,pI o,pI p,pI q,pI r,pI s]] u0 K:= VC [1,1000008,1000009,1000010,1000011] [(4,⟨[(3,.one (.raw (.int .i64)))],[]⟩),(8,⟨[(5,.one (.raw (.int .i64)))],[]⟩)] [] [] [] [] [] func49 h
theorem sm.c{i k m o q s:Fl}{b j l n p r:Lq}{t u v w x y z e:Int}(h: aj (α:=Int) (λA a d=> ae (decide (a<((List.length b:Nat):Int))) (0<=a/\∃(f:List PV),(b)[Int.toNat a]?=some f/\ ∃g,aA f 11 1=some [pI g]/\ ae (g == e) (K (pB true) d) (A (IntKind.wrap .i64 (a+1)) d)) (K (pB false) d)) (0) u0):ab prog 63 [.agg [.list 12 i b,.list 16 k j,.list 9 m l,.list 5 o n,.list 1 q p,.list 1 s r,pI t,pI u,pI v,pI w,pI x,pI y,pI z],pI e] u0 K:= VC [2] [(2,⟨[(5,.one (.raw (.int .i64)))],[]⟩)] [] [] [] [] [] func63 h
theorem fQ.c{a:Option Addr}{b:Int}(h: ab prog 113 [pA a,pI b] u0 λf e=> ∃g d,f=(.aC [pI g,pB d])/\ K (pB d) e):ab prog 65 [pA a,pI b] u0 K:= VC [] [] [] [] [] [] [] func65 h
theorem Dz.c{i:Fn}{j k:List PV}(h: ab prog 135 [] u0 λH B=> ∃x,H=(pA x)/\ ca B 147 [pA none] λa C=> stM a 0 [pA x] C λD=> bJ prog (.fn i j k) (λN y l=> ∃b d e O P Q p q r R S T,N=[.agg [pI b,pS d,pI e,pI O,pS P,pI Q,pI p,pS q,pI r,pB R,pB S,pI T]]/\ ∃s,aN l a 0 1=some [pA s]/\ ab prog 82 [pA s,.agg [pI b,pS d,pI e]] l λI n=> ∃t u,I=(.aC [pA t,pB u])/\ cw (α:=Option Addr) (λg=> ae (!u) (ab prog 28 [.list 3 .nil []] n λJ o=> ∃f,J=(pA f)/\ ∃v,aN o a 0 1=some [pA v]/\ ab prog 136 [pA v,.agg [pI b,pS d,pI e],pA f] o λL F=> ∃U,L=(pB U)/\ g f F) (g t n)) (λA E=> ab prog 31 [pA A,.agg [pI p,pS q,pI r]] E λM G=> ∃V,M=(pB V)/\ y none G)) (λz m=> PK z (∃w,aN m a 0 1=some [pA w]/\ K (pA w) m) (False) []) D):ab prog 81 [.fn i j k] u0 K:= VC [4] [] [(10,⟨[(5,.one (.raw .ptr))],[]⟩)] [(12,[60])] [] [] [] func81 h
theorem me.c{a:Option Addr}(h: K (.fn (.func 139) [] [.bl [pA a] 0]) u0):ab prog 83 [pA a] u0 K:= VC [] [] [] [] [1] [] [] func83 h
theorem sJ.c{a:Option Addr}{b e:Int}{d:ByteArray}(h: nP a λi j=> ∃f,aN u0 i (j+16) 1=some [pA f]/\ ab prog 79 [pA f,.agg [pI b,pS d,pI e]] u0 λl k=> ∃m g,l=(.aC [pI m,pB g])/\ K (pB g) k):ab prog 87 [pA a,.agg [pI b,pS d,pI e]] u0 K:= VC [3] [] [] [] [] [] [] func87 h
theorem qO.c{a:Option Addr}{b e:Int}{d:ByteArray}(h: ab prog 141 [pA a,.agg [pI b,pS d,pI e]] u0 λi g=> ∃j f,i=(.aC [pI j,pB f])/\ K (pB f) g):ab prog 88 [pA a,.agg [pI b,pS d,pI e]] u0 K:= VC [3] [] [] [] [] [] [] func88 h
theorem Az.c{j l b e m o p:Int}{k d n:ByteArray}{f g:Bool}(h: ab prog 142 [.agg [pI b,pS d,pI e]] u0 λq a=> ∃i,q=(pB i)/\ ae i (ae g (K (pB (!f)) a) (K (pB false) a)) (K (pB false) a)):ab prog 89 [.agg [pI j,pS k,pI l,pI b,pS d,pI e,pI m,pS n,pI o,pB f,pB g,pI p]] u0 K:= VC [1] [] [] [] [] [] [] func89 h
theorem iT.c{a:Option Addr}{b e f i j l o:Int}{d g k:ByteArray}{m n:Bool}(h: ab prog 143 [pA a,.agg [pI b,pS d,pI e,pI f,pS g,pI i,pI j,pS k,pI l,pB m,pB n,pI o]] u0 λr q=> ∃s p,r=(.aC [pI s,pB p])/\ K (pB p) q):ab prog 90 [pA a,.agg [pI b,pS d,pI e,pI f,pS g,pI i,pI j,pS k,pI l,pB m,pB n,pI o]] u0 K:= VC [3] [] [] [] [] [] [] func90 h
theorem vI.c{a d e g:Int}{b f:ByteArray}{i:Bool}(h: K (.agg [pI a,pS b,pI d,pI 3,pS ⟨#[111,112,101,114,97,116,111,114]⟩,pI 0,pI e,pS f,pI g,pB i,pB false,pI 0]) u0):ab prog 91 [.agg [pI a,pS b,pI d],.agg [pI e,pS f,pI g],pB i] u0 K:= VC [3,4,6] [] [] [] [] [] [] func91 h
theorem ux.c{b:Option Addr}{a:Int}(h: ae (decide (a>=1)) (nP b λe f=> ∃g d,aN u0 e (f+2) 1=some [.list 9 g d]/\ K (pB (decide (a<=((List.length d:Nat):Int)))) u0) (K (pB false) u0)):ab prog 92 [pA b,pI a] u0 K:= VC [] [] [] [] [] [] [] func92 h
theorem uy.c{b3:Fl}{s:Lq}(h: ab prog 29 [.list 12 .nil []] u0 λd3 c3=> ∃B,d3=(pA B)/\ ab prog 29 [.list 12 .nil []] c3 λd4 c4=> ∃C,d4=(pA C)/\ aj (α:=Int) (λt a p=> ae (decide (a<((List.length s:Nat):Int))) (0<=a/\∃(H:List PV),(s)[Int.toNat a]?=some H/\ ∃e f g i j k l m n v w x b y z A,aA H 0 16=some [pI e,pS f,pI g,pI i,pS j,pI k,pI l,pS m,pI n,pI v,pS w,pI x,pI b,pB y,pI z,pI A]/\ cw (α:=Option Addr) (λD=> (dg prog 144 [.agg [pI e,pS f,pI g,pI i,pS j,pI k,pI l,pS m,pI n,pI v,pS w,pI x,pI b,pB y,pI z,pI A]] p λd5 c8=> ∃J,d5=(pB J)/\ ca (Mem.or p c8) 60 [pI 0,pS ⟨#[]⟩,pI 0,pI 0,pS ⟨#[]⟩,pI 0,pI 0,pS ⟨#[]⟩,pI 0,pB false,pB false,pI 0] λF c9=> stM F 0 [pI e,pS f,pI g,pI i,pS j,pI k,pI l,pS m,pI n,pB J,pB false,pI 0] c9 λd0=> D (some ⟨F,0,none⟩) d0)/\ (ca p 60 [pI 0,pS ⟨#[]⟩,pI 0,pI 0,pS ⟨#[]⟩,pI 0,pI 0,pS ⟨#[]⟩,pI 0,pB false,pB false,pI 0] λG I=> dg prog 144 [.agg [pI e,pS f,pI g,pI i,pS j,pI k,pI l,pS m,pI n,pI v,pS w,pI x,pI b,pB y,pI z,pI A]] I λd6 d1=> ∃L,d6=(pB L)/\ stM G 0 [pI e,pS f,pI g,pI i,pS j,pI k,pI l,pS m,pI n,pB L,pB false,pI 0] (Mem.or I d1) λd2=> D (some ⟨G,0,none⟩) d2)) (λo q=> cw (α:=Unit) (λE=> cw (α:=Bool) (λr=> ae (b == 1) (r true q) (ae (b == 3) (bD (pA o) λb4 b8=> ∃M,aN q b4 (b8+9) 1=some [pB M]/\ r M q) (r false q))) (λc2 u=> ae c2 (bD (pA o) λb5 b9=> ∃N O P Q R S T U V W X Y,aN u b5 b9 12=some [pI N,pS O,pI P,pI Q,pS R,pI S,pI T,pS U,pI V,pB W,pB X,pI Y]/\ ab prog 32 [pA B,.agg [pI N,pS O,pI P,pI Q,pS R,pI S,pI T,pS U,pI V,pB W,pB X,pI Y]] u λd7 c5=> ∃e0,d7=(pB e0)/\ E () c5) (E () u))) (λe2 d=> ae (b == 2) (bD (pA o) λb6 c0=> ∃Z,aN d b6 (c0+9) 1=some [pB Z]/\ ae (!Z) (bD (pA o) λb7 c1=> ∃a0 a1 a2 a3 a4 a5 a6 a7 a8 a9 b0 b1,aN d b7 c1 12=some [pI a0,pS a1,pI a2,pI a3,pS a4,pI a5,pI a6,pS a7,pI a8,pB a9,pB b0,pI b1]/\ ab prog 32 [pA C,.agg [pI a0,pS a1,pI a2,pI a3,pS a4,pI a5,pI a6,pS a7,pI a8,pB a9,pB b0,pI b1]] d λd8 c6=> ∃e1,d8=(pB e1)/\ t (IntKind.wrap .i64 (a+1)) c6) (t (IntKind.wrap .i64 (a+1)) d)) (t (IntKind.wrap .i64 (a+1)) d)))) (ab prog 145 [pA B,pA C] p λd9 c7=> ∃b2,d9=(pA b2)/\ K (pA b2) c7)) (0) c4):ab prog 93 [.list 16 b3 s] u0 K:= VC [6] [(3,⟨[(12,.one (.raw (.int .i64)))],[]⟩)] [(6,⟨[(7,.one (.raw .ptr))],[]⟩),(7,⟨[(36,.one (.raw .bool))],[]⟩),(8,⟨[],[]⟩)] [] [] [] [] func93 h
theorem lu.c{a:Option Addr}(h: K (.fn (.func 146) [] [.bl [pA a] 0]) u0):ab prog 94 [pA a] u0 K:= VC [] [] [] [] [1] [] [] func94 h
theorem uk.c{a d e g i k x m o p r s u z:Int}{b f j n q t:ByteArray}{l w v y:Bool}(h: ae ((a == m)&&(aG b n&&((d == o)&&true))) (ae ((e == p)&&(aG f q&&((g == r)&&true))) (ae ((i == s)&&(aG j t&&((k == u)&&true))) (K (pB (l == v)) u0) (K (pB false) u0)) (K (pB false) u0)) (K (pB false) u0)):ab prog 95 [.agg [pI a,pS b,pI d,pI e,pS f,pI g,pI i,pS j,pI k,pB l,pB w,pI x],.agg [pI m,pS n,pI o,pI p,pS q,pI r,pI s,pS t,pI u,pB v,pB y,pI z]] u0 K:= VC [2,3] [] [] [] [] [] [] func95 h
theorem ph.c{k m n p r t:Fl}{j l b o q s:Lq}{u v w x y z A:Int}(h: aj (α:=(Fl×Lq)×Int) (λC a i=> ae (decide (a.2<((List.length b:Nat):Int))) (0<=a.2/\∃(g:List PV),(b)[Int.toNat a.2]?=some g/\ ∃d e f,aA g 0 3=some [pI d,pS e,pI f]/\ bF false 3 32 a.1.1 a.1.2 [[pI d,pS e,pI f]] i λB D=> C ((B,(a.1.2++[[pI d,pS e,pI f]])),(IntKind.wrap .i64 (a.2+1))) D) (K (.list 3 a.1.1 a.1.2) i)) ((.nil,[]),0) u0):ab prog 96 [.agg [.list 12 k j,.list 16 m l,.list 9 n b,.list 5 p o,.list 1 r q,.list 1 t s,pI u,pI v,pI w,pI x,pI y,pI z,pI A]] u0 K:= VC [1] [(3,⟨[(3,.one (.list 3)),(4,.one (.raw (.int .i64)))],[]⟩)] [] [] [] [] [] func96 h
theorem ur.c{m:Fl}{b:Lq}{e g:Int}{f:ByteArray}(h: aj (α:=Int) (λn a d=> ae (decide (a<((List.length b:Nat):Int))) (0<=a/\∃(i:List PV),(b)[Int.toNat a]?=some i/\ ∃j k l,aA i 0 3=some [pI j,pS k,pI l]/\ ae ((j == e)&&(aG k f&&((l == g)&&true))) (K (pB true) d) (n (IntKind.wrap .i64 (a+1)) d)) (K (pB false) d)) (0) u0):ab prog 97 [.list 3 m b,.agg [pI e,pS f,pI g]] u0 K:= VC [3] [(2,⟨[(5,.one (.raw (.int .i64)))],[]⟩)] [] [] [] [] [] func97 h
theorem pn.c{r Y:Fl}{f k:Lq}(h: aj (α:=(Fl×Lq)×Int) (λs d A=> ae (decide (d.2<((List.length f:Nat):Int))) (0<=d.2/\∃(u:List PV),(f)[Int.toNat d.2]?=some u/\ ∃F G H,aA u 0 3=some [pI F,pS G,pI H]/\ ab prog 99 [.list 4 d.1.1 d.1.2,.agg [pI F,pS G,pI H]] A λb2 B=> ∃I,b2=(pI I)/\ ae (I == 0) (0<=d.2/\∃(v:List PV),(f)[Int.toNat d.2]?=some v/\ ∃o p q,aA v 0 3=some [pI o,pS p,pI q]/\ bF false 4 40 d.1.1 d.1.2 [[pI o,pS p,pI q,pI (IntKind.wrap .i64 (d.2+1))]] B λa1 a9=> s ((a1,(d.1.2++[[pI o,pS p,pI q,pI (IntKind.wrap .i64 (d.2+1))]])),(IntKind.wrap .i64 (d.2+1))) a9) (s ((d.1.1,d.1.2),(IntKind.wrap .i64 (d.2+1))) B)) (aj (α:=(Fl×Lq)×Int) (λt e C=> ae (decide (e.2<((List.length f:Nat):Int))) (0<=e.2/\∃(w:List PV),(f)[Int.toNat e.2]?=some w/\ ∃J L M,aA w 0 3=some [pI J,pS L,pI M]/\ ca C 58 [pI J,pS L,pI M] λa0 b0=> aj (α:=(Fl×Lq)×(Option Addr×Nat×Nat)) (λa3 b D=> ae (decide ((((b.2.2.1:Nat):Int):Int)>0)) (0<=e.2/\∃(x:List PV),(f)[Int.toNat e.2]?=some x/\ ∃N O P,aA x 0 3=some [pI N,pS O,pI P]/\ ab prog 148 [.list 3 r f,.agg [pI N,pS O,pI P]] D λb3 n=> ∃Q,b3=(pI Q)/\ ae (Q == e.2) (bR b.2.1 λZ a4=> (0:Int)<=0/\0<((b.2.2.1:Nat):Int)/\ ∃R S T,aN n Z (a4+Int.toNat 0*3) 3=some [pI R,pS S,pI T]/\ fW b.2.1/\(0:Int)<=1/\1<=((b.2.2.1:Nat):Int)/\((b.2.2.1:Nat):Int)<=((b.2.2.2:Nat):Int)/\((b.2.2.2:Nat):Int)<=((b.2.2.2:Nat):Int)/\ aj (α:=(Fl×Lq)×(Option Addr×Nat×Nat)×Int) (λl a m=> ae (decide (a.2.2<((List.length k:Nat):Int))) (0<=a.2.2/\∃(y:List PV),(k)[Int.toNat a.2.2]?=some y/\ ∃g i j,aA y 6 3=some [pI g,pS i,pI j]/\ 0<=a.2.2/\∃(z:List PV),(k)[Int.toNat a.2.2]?=some z/\ ∃U V W,aA z 0 3=some [pI U,pS V,pI W]/\ ae ((U == R)&&(aG V S&&((W == T)&&true))) (ae (g == 1) (ab prog 99 [.list 4 a.1.1 a.1.2,.agg [pI g,pS i,pI j]] m λb4 E=> ∃X,b4=(pI X)/\ ae (X == 0) (bF false 4 40 a.1.1 a.1.2 [[pI g,pS i,pI j,pI (IntKind.wrap .i64 (e.2+1))]] E λa2 b1=> iw 3 32 58 a.2.1.1 a.2.1.2.1 a.2.1.2.2 (.list 3 .nr [[pI g,pS i,pI j]]) b1 λa5 a7 a6 a8=> l ((a2,(a.1.2++[[pI g,pS i,pI j,pI (IntKind.wrap .i64 (e.2+1))]])),(a5,a7,a6),(IntKind.wrap .i64 (a.2.2+1))) a8) (l ((a.1.1,a.1.2),(a.2.1.1,a.2.1.2.1,a.2.1.2.2),(IntKind.wrap .i64 (a.2.2+1))) E)) (l ((a.1.1,a.1.2),(a.2.1.1,a.2.1.2.1,a.2.1.2.2),(IntKind.wrap .i64 (a.2.2+1))) m)) (l ((a.1.1,a.1.2),(a.2.1.1,a.2.1.2.1,a.2.1.2.2),(IntKind.wrap .i64 (a.2.2+1))) m)) (a3 ((a.1.1,a.1.2),(a.2.1.1,a.2.1.2.1,a.2.1.2.2)) m)) ((b.1.1,b.1.2),((sX b.2.1 (Int.toNat 1) (Int.toNat ((b.2.2.2:Nat):Int)) 3),(Int.toNat ((b.2.2.1:Nat):Int)-Int.toNat 1),(Int.toNat ((b.2.2.2:Nat):Int)-Int.toNat 1)),0) n) (t ((b.1.1,b.1.2),(IntKind.wrap .i64 (e.2+1))) n)) (t ((b.1.1,b.1.2),(IntKind.wrap .i64 (e.2+1))) D)) ((e.1.1,e.1.2),((some ⟨a0,0,none⟩),1,1)) b0) (K (.list 4 e.1.1 e.1.2) C)) ((d.1.1,d.1.2),0) A)) ((.nil,[]),0) u0):ab prog 98 [.list 3 r f,.list 12 Y k] u0 K:= VC [9,11] [(3,⟨[(5,.one (.list 4)),(6,.one (.raw (.int .i64)))],[]⟩),(8,⟨[(5,.one (.list 4)),(7,.one (.raw (.int .i64)))],[]⟩),(11,⟨[(5,.one (.list 4)),(8,.one (.raw .slice))],[]⟩),(15,⟨[(5,.one (.list 4)),(8,.one (.raw .slice)),(10,.one (.raw (.int .i64)))],[]⟩)] [] [] [] [45] [8,45,46,59,62,63,100,103] func98 h
theorem vF.c{o:Fl}{b:Lq}{e g:Int}{f:ByteArray}(h: aj (α:=Int) (λp a d=> ae (decide (a<((List.length b:Nat):Int))) (0<=a/\∃(i:List PV),(b)[Int.toNat a]?=some i/\ ∃k l m,aA i 0 3=some [pI k,pS l,pI m]/\ ae ((k == e)&&(aG l f&&((m == g)&&true))) (0<=a/\∃(j:List PV),(b)[Int.toNat a]?=some j/\ ∃n,aA j 3 1=some [pI n]/\ K (pI n) d) (p (IntKind.wrap .i64 (a+1)) d)) (K (pI 0) d)) (0) u0):ab prog 99 [.list 4 o b,.agg [pI e,pS f,pI g]] u0 K:= VC [3] [(2,⟨[(5,.one (.raw (.int .i64)))],[]⟩)] [] [] [] [] [] func99 h
theorem pj.c{l n b e o q r:Int}{m d p:ByteArray}{f g:Bool}(h: dg prog 149 [] u0 λs a=> ∃i j k,s=(.agg [pI i,pS j,pI k])/\ ae ((b == i)&&(aG d j&&((e == k)&&true))) (ae g (K (pB (!f)) (Mem.or u0 a)) (K (pB false) (Mem.or u0 a))) (K (pB false) (Mem.or u0 a))):ab prog 100 [.agg [pI l,pS m,pI n,pI b,pS d,pI e,pI o,pS p,pI q,pB f,pB g,pI r]] u0 K:= VC [1] [] [] [] [] [] [] func100 h
theorem wX.c{a:ByteArray}(h: K (.agg [pI 3,pS a,pI 0]) u0):ab prog 101 [pS a] u0 K:= VC [2] [] [] [] [] [] [] func101 h
theorem su.c{U:Fl}{b:Lq}{d f g j k m p:Int}{e i l:ByteArray}{n o:Bool}(h: aj (α:=Int) (λV a s=> ae (decide (a<((List.length b:Nat):Int))) (0<=a/\∃(q:List PV),(b)[Int.toNat a]?=some q/\ ∃u v w x y z A B C D E F,aA q 0 12=some [pI u,pS v,pI w,pI x,pS y,pI z,pI A,pS B,pI C,pB D,pB E,pI F]/\ ab prog 95 [.agg [pI u,pS v,pI w,pI x,pS y,pI z,pI A,pS B,pI C,pB D,pB E,pI F],.agg [pI d,pS e,pI f,pI g,pS i,pI j,pI k,pS l,pI m,pB n,pB o,pI p]] s λW t=> ∃G,W=(pB G)/\ ae G (0<=a/\∃(r:List PV),(b)[Int.toNat a]?=some r/\ ∃H I J L M N O P Q R S T,aA r 0 12=some [pI H,pS I,pI J,pI L,pS M,pI N,pI O,pS P,pI Q,pB R,pB S,pI T]/\ K (.aC [.agg [pI H,pS I,pI J,pI L,pS M,pI N,pI O,pS P,pI Q,pB R,pB S,pI T],pB true]) t) (V (IntKind.wrap .i64 (a+1)) t)) (K (.aC [.agg [pI 0,pS ⟨#[]⟩,pI 0,pI 0,pS ⟨#[]⟩,pI 0,pI 0,pS ⟨#[]⟩,pI 0,pB false,pB false,pI 0],pB false]) s)) (0) u0):ab prog 102 [.list 12 U b,.agg [pI d,pS e,pI f,pI g,pS i,pI j,pI k,pS l,pI m,pB n,pB o,pI p]] u0 K:= VC [3,4] [(2,⟨[(6,.one (.raw (.int .i64)))],[(4,12)]⟩)] [] [] [] [] [] func102 h
theorem qG.c{B:Fl}{u:Lq}(h: aj (α:=(Fl×Lq)×Int) (λE b v=> ae (decide (b.2<((List.length u:Nat):Int))) (0<=b.2/\∃(F:List PV),(u)[Int.toNat b.2]?=some F/\ ∃e f g i j k l m n o p q a r s t,aA F 0 16=some [pI e,pS f,pI g,pI i,pS j,pI k,pI l,pS m,pI n,pI o,pS p,pI q,pI a,pB r,pI s,pI t]/\ cw (α:=Option Addr) (λA=> (dg prog 150 [.agg [pI e,pS f,pI g,pI i,pS j,pI k,pI l,pS m,pI n,pI o,pS p,pI q,pI a,pB r,pI s,pI t]] v λb6 b1=> ∃L,b6=(pB L)/\ ca (Mem.or v b1) 60 [pI 0,pS ⟨#[]⟩,pI 0,pI 0,pS ⟨#[]⟩,pI 0,pI 0,pS ⟨#[]⟩,pI 0,pB false,pB false,pI 0] λC b2=> stM C 0 [pI e,pS f,pI g,pI i,pS j,pI k,pI l,pS m,pI n,pB L,pB false,pI 0] b2 λb3=> A (some ⟨C,0,none⟩) b3)/\ (ca v 60 [pI 0,pS ⟨#[]⟩,pI 0,pI 0,pS ⟨#[]⟩,pI 0,pI 0,pS ⟨#[]⟩,pI 0,pB false,pB false,pI 0] λD I=> dg prog 150 [.agg [pI e,pS f,pI g,pI i,pS j,pI k,pI l,pS m,pI n,pI o,pS p,pI q,pI a,pB r,pI s,pI t]] I λb7 b4=> ∃M,b7=(pB M)/\ stM D 0 [pI e,pS f,pI g,pI i,pS j,pI k,pI l,pS m,pI n,pB M,pB false,pI 0] (Mem.or I b4) λb5=> A (some ⟨D,0,none⟩) b5)) (λa8 G=> cw (α:=Bool) (λd=> ae (a == 1) (ab prog 150 [.agg [pI e,pS f,pI g,pI i,pS j,pI k,pI l,pS m,pI n,pI o,pS p,pI q,pI a,pB r,pI s,pI t]] G λb8 J=> ∃N,b8=(pB N)/\ ae (!N) (ab prog 151 [.list 16 B u,.agg [pI e,pS f,pI g,pI i,pS j,pI k,pI l,pS m,pI n,pI o,pS p,pI q,pI a,pB r,pI s,pI t]] J λb9 H=> ∃O,b9=(pB O)/\ ae (!O) (d true H) (ab prog 150 [.agg [pI e,pS f,pI g,pI i,pS j,pI k,pI l,pS m,pI n,pI o,pS p,pI q,pI a,pB r,pI s,pI t]] H λc0 w=> ∃P,c0=(pB P)/\ ae P (ae (a == 1) (d true w) (d (a == 3) w)) (d false w))) (ab prog 150 [.agg [pI e,pS f,pI g,pI i,pS j,pI k,pI l,pS m,pI n,pI o,pS p,pI q,pI a,pB r,pI s,pI t]] J λc1 x=> ∃Q,c1=(pB Q)/\ ae Q (ae (a == 1) (d true x) (d (a == 3) x)) (d false x))) (ab prog 150 [.agg [pI e,pS f,pI g,pI i,pS j,pI k,pI l,pS m,pI n,pI o,pS p,pI q,pI a,pB r,pI s,pI t]] G λc2 y=> ∃R,c2=(pB R)/\ ae R (ae (a == 1) (d true y) (d (a == 3) y)) (d false y))) (λa9 z=> ae a9 (bD (pA a8) λa6 a7=> ∃S T U V W X Y Z a0 a1 a2 a3,aN z a6 a7 12=some [pI S,pS T,pI U,pI V,pS W,pI X,pI Y,pS Z,pI a0,pB a1,pB a2,pI a3]/\ ab prog 152 [.list 12 b.1.1 b.1.2,.agg [pI S,pS T,pI U,pI V,pS W,pI X,pI Y,pS Z,pI a0,pB a1,pB a2,pI a3]] z λc3 b0=> ∃a5 a4,c3=(.list 12 a5 a4)/\ E ((a5,a4),(IntKind.wrap .i64 (b.2+1))) b0) (E ((b.1.1,b.1.2),(IntKind.wrap .i64 (b.2+1))) z)))) (K (.list 12 b.1.1 b.1.2) v)) ((.nil,[]),0) u0):ab prog 103 [.list 16 B u] u0 K:= VC [5] [(3,⟨[(3,.one (.list 12)),(4,.one (.raw (.int .i64)))],[]⟩)] [(7,⟨[(6,.one (.raw .ptr))],[]⟩),(8,⟨[(53,.one (.raw .bool))],[]⟩)] [] [] [] [] func103 h
theorem nC.c{a d:Int}{b:ByteArray}(h: K (.agg [pI a,pS b,pI d,pI 0]) u0):ab prog 132 [.agg [pI a,pS b,pI d]] u0 K:= VC [1,2] [] [] [] [] [] [] func132 h
theorem fP.c{a d:Int}{b:ByteArray}(h: K (.agg [pI a,pS b,pI d,pA none]) u0):ab prog 138 [.agg [pI a,pS b,pI d]] u0 K:= VC [1,2] [] [] [] [] [] [] func138 h
theorem nc.c{a d:Int}{b:ByteArray}(h: K (pB ((a == 3)&&(aG b ⟨#[111,112,101,114,97,116,111,114]⟩&&((d == 0)&&true)))) u0):ab prog 142 [.agg [pI a,pS b,pI d]] u0 K:= VC [1] [] [] [] [] [] [] func142 h
theorem Gv.c{f i a d j l m o p r s:Int}{g b k n:ByteArray}{q:Bool}(h: ab prog 142 [.agg [pI a,pS b,pI d]] u0 λu t=> ∃e,u=(pB e)/\ K (pB e) t):ab prog 144 [.agg [pI f,pS g,pI i,pI a,pS b,pI d,pI j,pS k,pI l,pI m,pS n,pI o,pI p,pB q,pI r,pI s]] u0 K:= VC [1] [] [] [] [] [] [] func144 h
theorem nB.c{u v:Option Addr}(h: ca u0 89 [pA v] λL Y=> ca Y 137 [pV none 0 0,pB false] λJ Z=> ca Z 89 [pA none] λb a1=> stM b 0 [pP J 0] a1 λa2=> ab prog 94 [pA u] a2 λa6 a3=> ∃z A B,a6=(.fn z A B)/\ bJ prog (.fn z A B) (λa8 q x=> ∃d e f g i j k l m n o p,a8=[.agg [pI d,pS e,pI f,pI g,pS i,pI j,pI k,pS l,pI m,pB n,pB o,pI p]]/\ ∃C,aN x L 0 1=some [pA C]/\ ab prog 143 [pA C,.agg [pI d,pS e,pI f,pI g,pS i,pI j,pI k,pS l,pI m,pB n,pB o,pI p]] x λa7 a=> ∃a9 D,a7=(.aC [pI a9,pB D])/\ ae (!D) (∃G,aN a b 0 1=some [pA G]/\ nP G λI O=> ∃r t s,aN a I O 1=some [pV r t s]/\ (∃E,aN a b 0 1=some [pA E]/\ ((iw 12 112 60 r t s (.list 12 .nr [[pI d,pS e,pI f,pI g,pS i,pI j,pI k,pS l,pI m,pB n,pB o,pI p]]) a λS X W a4=> nP E λM P=> (stM M P [pV S X W] a4 λa5=> q none a5)/\ True)/\ True)/\ True)/\ ((iw 12 112 60 r t s (.list 12 .nr [[pI d,pS e,pI f,pI g,pS i,pI j,pI k,pS l,pI m,pB n,pB o,pI p]]) a λT V U w=> ∃F,aN w b 0 1=some [pA F]/\ nP F λN Q=> (stM N Q [pV T V U] w λa0=> q none a0)/\ True)/\ True)/\ True) (q none a)) (λR y=> PK R (∃H,aN y b 0 1=some [pA H]/\ K (pA H) y) (False) []) a3):ab prog 145 [pA u,pA v] u0 K:= VC [6,1000006] [] [] [(13,[60])] [] [] [26,29,2010000] func145 h
theorem qH.c{m:Fl}{b:Lq}{e g:Int}{f:ByteArray}(h: aj (α:=Int) (λn a d=> ae (decide (a<((List.length b:Nat):Int))) (0<=a/\∃(i:List PV),(b)[Int.toNat a]?=some i/\ ∃j k l,aA i 0 3=some [pI j,pS k,pI l]/\ ae ((j == e)&&(aG k f&&((l == g)&&true))) (K (pI a) d) (n (IntKind.wrap .i64 (a+1)) d)) (K (pI (-1)) d)) (0) u0):ab prog 148 [.list 3 m b,.agg [pI e,pS f,pI g]] u0 K:= VC [3] [(2,⟨[(5,.one (.raw (.int .i64)))],[]⟩)] [] [] [] [] [] func148 h
theorem gQ.c(h: K (.agg [pI 3,pS ⟨#[111,112,101,114,97,116,111,114]⟩,pI 0]) u0):ab prog 149 [] u0 K:= VC [0] [] [] [] [] [] [] func149 h
theorem ss.c{i k a d l n o q r t u:Int}{j b m p:ByteArray}{s:Bool}(h: dg prog 149 [] u0 λw v=> ∃e f g,w=(.agg [pI e,pS f,pI g])/\ K (pB ((a == e)&&(aG b f&&((d == g)&&true)))) (Mem.or u0 v)):ab prog 150 [.agg [pI i,pS j,pI k,pI a,pS b,pI d,pI l,pS m,pI n,pI o,pS p,pI q,pI r,pB s,pI t,pI u]] u0 K:= VC [1] [] [] [] [] [] [] func150 h
theorem mM.c{D:Fl}{b:Lq}{f i j l m o E G H J L:Int}{g k n F:ByteArray}{I:Bool}(h: aj (α:=Int) (λe a d=> ae (decide (a<((List.length b:Nat):Int))) (0<=a/\∃(p:List PV),(b)[Int.toNat a]?=some p/\ ∃t,aA p 12 1=some [pI t]/\ ae (t == 2) (0<=a/\∃(q:List PV),(b)[Int.toNat a]?=some q/\ ∃u v w,aA q 0 3=some [pI u,pS v,pI w]/\ ae ((u == f)&&(aG v g&&((w == i)&&true))) (0<=a/\∃(r:List PV),(b)[Int.toNat a]?=some r/\ ∃x y z,aA r 3 3=some [pI x,pS y,pI z]/\ ae ((x == j)&&(aG y k&&((z == l)&&true))) (0<=a/\∃(s:List PV),(b)[Int.toNat a]?=some s/\ ∃A B C,aA s 6 3=some [pI A,pS B,pI C]/\ ae ((A == m)&&(aG B n&&((C == o)&&true))) (K (pB true) d) (e (IntKind.wrap .i64 (a+1)) d)) (e (IntKind.wrap .i64 (a+1)) d)) (e (IntKind.wrap .i64 (a+1)) d)) (e (IntKind.wrap .i64 (a+1)) d)) (K (pB false) d)) (0) u0):ab prog 151 [.list 16 D b,.agg [pI f,pS g,pI i,pI j,pS k,pI l,pI m,pS n,pI o,pI E,pS F,pI G,pI H,pB I,pI J,pI L]] u0 K:= VC [3] [(2,⟨[(5,.one (.raw (.int .i64)))],[]⟩)] [] [] [] [] [] func151 h
theorem uj.c{t:Fl}{a:Lq}{d f g j k m p:Int}{e i l:ByteArray}{n o:Bool}(h: cw (α:=Int) (λr=> aj (α:=Int) (λa4 q x=> ae (decide (q>0)) (0<=(IntKind.wrap .i64 (q-1))/\∃(u:List PV),(a)[Int.toNat (IntKind.wrap .i64 (q-1))]?=some u/\ ∃A B C D E F G H I J L M,aA u 0 12=some [pI A,pS B,pI C,pI D,pS E,pI F,pI G,pS H,pI I,pB J,pB L,pI M]/\ ab prog 207 [.agg [pI d,pS e,pI f,pI g,pS i,pI j,pI k,pS l,pI m,pB n,pB o,pI p],.agg [pI A,pS B,pI C,pI D,pS E,pI F,pI G,pS H,pI I,pB J,pB L,pI M]] x λa9 y=> ∃N,a9=(pB N)/\ ae N (a4 (IntKind.wrap .i64 (q-1)) y) (r q y)) (r q x)) ((List.length a:Nat):Int) u0) (λb w=> cw (α:=Unit) (λs=> ae (decide (b>0)) (0<=(IntKind.wrap .i64 (b-1))/\∃(v:List PV),(a)[Int.toNat (IntKind.wrap .i64 (b-1))]?=some v/\ ∃O P Q R S T U V W X Y Z,aA v 0 12=some [pI O,pS P,pI Q,pI R,pS S,pI T,pI U,pS V,pI W,pB X,pB Y,pI Z]/\ ab prog 95 [.agg [pI O,pS P,pI Q,pI R,pS S,pI T,pI U,pS V,pI W,pB X,pB Y,pI Z],.agg [pI d,pS e,pI f,pI g,pS i,pI j,pI k,pS l,pI m,pB n,pB o,pI p]] w λb0 z=> ∃a0,b0=(pB a0)/\ ae a0 (K (.list 12 t a) z) (s () z)) (s () w)) (λb1 a5=> (0:Int)<=(0:Int)/\0<=b/\b<=((List.length a:Nat):Int)/\ bF false 12 112 .nil [] (List.drop (Int.toNat (0:Int)) (List.take (Int.toNat b) a)) a5 λa1 a6=> bF false 12 112 a1 ([]++(List.drop (Int.toNat (0:Int)) (List.take (Int.toNat b) a))) [[pI d,pS e,pI f,pI g,pS i,pI j,pI k,pS l,pI m,pB n,pB o,pI p]] a6 λa2 a7=> 0<=b/\b<=((List.length a:Nat):Int)/\((List.length a:Nat):Int)<=((List.length a:Nat):Int)/\ bF false 12 112 a2 (([]++(List.drop (Int.toNat (0:Int)) (List.take (Int.toNat b) a)))++[[pI d,pS e,pI f,pI g,pS i,pI j,pI k,pS l,pI m,pB n,pB o,pI p]]) (List.drop (Int.toNat b) (List.take (Int.toNat ((List.length a:Nat):Int)) a)) a7 λa3 a8=> K (.list 12 a3 ((([]++(List.drop (Int.toNat (0:Int)) (List.take (Int.toNat b) a)))++[[pI d,pS e,pI f,pI g,pS i,pI j,pI k,pS l,pI m,pB n,pB o,pI p]])++(List.drop (Int.toNat b) (List.take (Int.toNat ((List.length a:Nat):Int)) a)))) a8))):ab prog 152 [.list 12 t a,.agg [pI d,pS e,pI f,pI g,pS i,pI j,pI k,pS l,pI m,pB n,pB o,pI p]] u0 K:= VC [3] [(2,⟨[(5,.one (.raw (.int .i64)))],[]⟩)] [(4,⟨[(5,.one (.raw (.int .i64)))],[]⟩),(6,⟨[],[]⟩)] [] [] [] [] func152 h
end Go.Proofs.YtbkejjmjopgpoaaGreat
namespace Go.Proofs.YtbkejjmjopgpoaaGreat
open Go.Proofs.Tryz Go.az
variable {u0:Mem} {K:Kq}
set_option maxRecDepth 100000
theorem po.c{a d e g i k A l n o q r t C:Int}{b f j m p s:ByteArray}{u z v B:Bool}(h: ae (!((a == l)&&(aG b m&&((d == n)&&true)))) (ab prog 293 [.agg [pI a,pS b,pI d],.agg [pI l,pS m,pI n]] u0 λG D=> ∃w,G=(pB w)/\ K (pB w) D) (ae (!((e == o)&&(aG f p&&((g == q)&&true)))) (ab prog 293 [.agg [pI e,pS f,pI g],.agg [pI o,pS p,pI q]] u0 λH E=> ∃x,H=(pB x)/\ K (pB x) E) (ae (!((i == r)&&(aG j s&&((k == t)&&true)))) (ab prog 293 [.agg [pI i,pS j,pI k],.agg [pI r,pS s,pI t]] u0 λI F=> ∃y,I=(pB y)/\ K (pB y) F) (ae (!u) (K (pB v) u0) (K (pB false) u0))))):ab prog 207 [.agg [pI a,pS b,pI d,pI e,pS f,pI g,pI i,pS j,pI k,pB u,pB z,pI A],.agg [pI l,pS m,pI n,pI o,pS p,pI q,pI r,pS s,pI t,pB v,pB B,pI C]] u0 K:= VC [2,3] [] [] [] [] [] [] func207 h
theorem pz.c{a f d g:Int}{b e:ByteArray}(h: ae (a != d) (K (pB (decide (a<d))) u0) (ae (!aG b e) (K (pB (Op.bytesLess (ByteArray.toList b) (ByteArray.toList e))) u0) (K (pB (decide (f<g))) u0))):ab prog 293 [.agg [pI a,pS b,pI f],.agg [pI d,pS e,pI g]] u0 K:= VC [2,3] [] [] [] [] [] [] func293 h
end Go.Proofs.YtbkejjmjopgpoaaGreat
namespace Go.Proofs.YtbkejjmjopgpoaaGreat
open Go.Proofs.Tryz Go.az
variable {u0:Mem} {K:Kq}
set_option maxRecDepth 100000
theorem sK.c{g j k m n p D r t u w x z F:Int}{i l o s v y:ByteArray}{q C b E:Bool}(h: ab prog 489 [.agg [pI g,pS i,pI j],.agg [pI r,pS s,pI t]] u0 λG A=> ∃d,G=(pI d)/\ ae (d != 0) (K (pI d) A) (ab prog 489 [.agg [pI k,pS l,pI m],.agg [pI u,pS v,pI w]] A λH B=> ∃e,H=(pI e)/\ ae (e != 0) (K (pI e) B) (ab prog 489 [.agg [pI n,pS o,pI p],.agg [pI x,pS y,pI z]] B λI a=> ∃f,I=(pI f)/\ ae (f != 0) (K (pI f) a) (ae (q == b) (K (pI 0) a) (ae b (K (pI (-1)) a) (K (pI 1) a)))))):ab prog 494 [.agg [pI g,pS i,pI j,pI k,pS l,pI m,pI n,pS o,pI p,pB q,pB C,pI D],.agg [pI r,pS s,pI t,pI u,pS v,pI w,pI x,pS y,pI z,pB b,pB E,pI F]] u0 K:= VC [2,3] [] [] [] [] [] [] func494 h
theorem mP.c{a b:Int}(h: ae (decide (a<b)) (K (pI (-1)) u0) (ae (decide (a>b)) (K (pI 1) u0) (K (pI 0) u0))):ab prog 505 [pI a,pI b] u0 K:= VC [] [] [] [] [] [] [] func505 h
theorem g_.c{b e k f i l:Int}{d g:ByteArray}(h: (∀a,pv prog (method (prog.types.size+Made.depth) 58 a "Compare")=some (489,a))/\ ab prog 489 [.agg [pI b,pS d,pI e],.agg [pI f,pS g,pI i]] u0 λa m=> ∃j,a=(pI j)/\ K (pI j) m):ab prog 537 [.agg [pI b,pS d,pI e,pI k],.agg [pI f,pS g,pI i,pI l]] u0 K:= VC [2,3] [] [] [] [] [] [] func537 h
theorem dI.c{b e f i:Int}{d g:ByteArray}{k l:Option Addr}(h: (∀a,pv prog (method (prog.types.size+Made.depth) 58 a "Compare")=some (489,a))/\ ab prog 489 [.agg [pI b,pS d,pI e],.agg [pI f,pS g,pI i]] u0 λa m=> ∃j,a=(pI j)/\ K (pI j) m):ab prog 538 [.agg [pI b,pS d,pI e,pA k],.agg [pI f,pS g,pI i,pA l]] u0 K:= VC [2,3] [] [] [] [] [] [] func538 h
end Go.Proofs.YtbkejjmjopgpoaaGreat
namespace Go.az
open Go.RowKit
section
variable {P:Program} {w:World} {n:Nat} {t:TypeId} {cs:List Value}
section
variable {H:Type} {enc:TypeId×Value->H} {r:Reach} {base:Nat} {v:Value} {d:DataW H} {p:List MemPlace}
theorem TB{T:Type}{pv:T->List PV}{Q:T->Prop}{fs:Array Field}(ht:P.underlying t=some (.struct fs))(he:∀m cs,Reads P w m t cs->∃s,aY (fj w) (pv s) cs/\Q s)(hv:Value.okWide P w r base t v)(h:DataW.Trod enc P w 0 (λ_=>true) true t v d p):
  ∃s,bw (fj w) (.agg (pv s)) v/\Q s:=by
 simp only[Value.okWide,ht]at hv
 obtain⟨cs,rfl,_,_⟩:=hv
 obtain⟨n,hn⟩:=Reads.of h
 obtain⟨s,e,hq⟩:=he n _ hn
 exact⟨s,e.mR,hq⟩
end
end
namespace an
end an
theorem aQ{x y:Sym}:bE x y=true↔x=y:=by
 obtain⟨a,b,c⟩:=x;obtain⟨a',b',c'⟩:=y
 simp[bE,cf]
theorem GS(x:Sym):bE x x=true:=aQ.2 rfl
theorem Ow.perm{L L':List bk}(hp:L.Perm L'){μ:Mem}:Ow L μ->Ow L' μ:=by
 induction hp generalizing μ with
 |nil=>exact id
 |cons A _ ih=>exact λh=>h.tail λ_ h'=>ih h'
 |swap A B l=>exact λh=>h.swap
 |trans _ _ h1 h2=>exact λh=>h2 (h1 h)
theorem Ow.pick{P A B L:List bk}{x:bk}{μ:Mem}(h:Ow (P++((A++x::B)++L)) μ):Ow (x::(P++((A++B)++L))) μ:=by
 refine h.perm ?_
 have e1:P++((A++x::B)++L)=(P++A)++x::(B++L):=by simp
 have e2:P++((A++B)++L)=(P++A)++(B++L):=by simp
 rw[e1,e2];exact List.perm_middle
theorem Ow.XJ{P A B L:List bk}{x:bk}{μ:Mem}(h:Ow (x::(P++((A++B)++L))) μ):Ow (P++((A++x::B)++L)) μ:=by
 refine h.perm ?_
 have e1:P++((A++x::B)++L)=(P++A)++x::(B++L):=by simp
 have e2:P++((A++B)++L)=(P++A)++(B++L):=by simp
 rw[e1,e2];exact List.perm_middle.symm
theorem Ow.nq{L1 L:List bk}{A:bk}{μ:Mem}(h:Ow (L1++A::L) μ):Ow (A::(L1++L)) μ:=h.perm List.perm_middle
theorem ab.q{P:Program}{g:FuncId}{args:List PV}{μ:Mem}{K K2:Kq}(h:ab P g args M0 K)(hk:∀p μ',μ.sep μ'->K p μ'->K2 p μ'):dg P g args μ K2:=λZ u vs hg hw ha=>by
 obtain⟨hc,dG⟩:=h Z ⟨u.toWorld,λ_=>False⟩ vs ⟨hg.DN,λb o e=>by cases e⟩ (λ_ h=>h.elim) ha
 refine⟨hc,dG.EP λv lo w' _ _ hp=>?_⟩
 obtain⟨Z',μ',p,e,g',hr,hK⟩:=hp
 refine⟨Z',μ',p,e,g',hr,hk p μ' (λb=>?_) hK⟩
 cases hx:μ b with
 |none=>exact .inl rfl
 |some o=>
  right
  cases hy:μ' b with
  |none=>rfl
  |some o'=>
   have bB:=hg.qa (b:=b) (by rw[hx];simp)
   rcases e.mn b (by rw[hy];simp)with h1|h1
   ·exact absurd rfl h1
   ·have:u.heap.size<=b:=h1
    omega
theorem Ow.side{L M:List bk}{μ ν:Mem}(h:Ow L μ)(hs:μ.sep ν)(k:Ow M ν):Ow (M++L) (μ.or ν):=Ow.nest ⟨ν,μ,hs.symm,Mem.or_comm hs,k,h⟩
section
variable {T κ:Type} (ck:κ->κ->Int) (key:T->κ)
def Yx(k:κ)(L:List T):Nat:=(L.filter (CG ck key k)).length
def wT(k:κ)(L:List T):List T:=L.filter λy=> !FR ck key k y
end
section
variable {T κ:Type} {ck:κ->κ->Int} {key:T->κ}
section
variable {L:List T} {x:κ} {k:Nat}
theorem bx.pos{there:Bool}(hc:kQ ck)(h:bx ck (L.map key) x k there)(hu:dh ck key L):k=Yx ck key x L:=by
 unfold Yx
 rw[oT (k:=k) h.leK (λi hi oO=>?_) (λi hi oO=>?_)]
 ·simp[h.leK]
 ·have:=h.PJ i hi oO;simp[CG];omega
 ·cases there with
  |false=>have:=h.Kh i hi oO;simp[CG];omega
  |true=>
   obtain⟨hk,e⟩:=h.Zp
   by_cases hik':i=k
   ·subst hik';simp[CG,e,hc.self]
   ·have h1:=hu.up.lt (i:=k) (j:=i) (by omega) (by simpa using hi)
    simp only[List.getElem_map]at h1
    rw[e]at h1
    have:=(hc.flip _ _).1 h1
    simp[CG];omega
theorem bx.isSome{there:Bool}(hc:kQ ck)(h:bx ck (L.map key) x k there)(hu:dh ck key L):there=(bI ck key x L).isSome:=by
 cases there with
 |false=>rw[h.none hc];rfl
 |true=>obtain⟨_,e⟩:=h.some hc hu;rw[e];rfl
theorem bx.del(hc:kQ ck)(h:bx ck (L.map key) x k true)(hu:dh ck key L):L.eraseIdx k=wT ck key x L:=by
 obtain⟨hk,e⟩:=h.Zp
 have e1:=List.take_append_drop k L
 have e2:L.drop k=L[k]::L.drop (k+1):=List.drop_eq_getElem_cons hk
 rw[List.eraseIdx_eq_take_drop_succ]
 unfold wT
 conv=>rhs;rw[<- e1,e2]
 rw[List.filter_append,List.filter_cons]
 have h0:FR ck key x L[k]=true:=by simp[FR,e,hc.self]
 simp only[h0,Bool.not_true,Bool.false_eq_true,if_false]
 rw[List.filter_eq_self.2 λz hz=>?_,List.filter_eq_self.2 λz hz=>?_]
 ·obtain⟨i,hi,rfl⟩:=List.mem_iff_getElem.1 hz
  rw[List.getElem_drop]
  simp only[List.length_drop]at hi
  have h1:=hu.up.lt (i:=k) (j:=k+1+i) (by omega) (by simp;omega)
  simp only[List.getElem_map]at h1
  rw[e]at h1
  have:=(hc.flip _ _).1 h1
  simp[FR];omega
 ·obtain⟨i,hi,rfl⟩:=List.mem_iff_getElem.1 hz
  rw[List.getElem_take]
  simp only[List.length_take]at hi
  have:=h.PJ i (by omega) (by omega)
  simp[FR];omega
end
theorem ES(hc:kQ ck){k:κ}{y:T}{L:List T}:y∈wT ck key k L↔y∈L/\key y≠k:=by
 unfold wT
 simp only[List.mem_filter,FR,Bool.not_eq_true',decide_eq_false_iff_not,hc.zero,ne_eq]
theorem dh.del{L:List T}(h:dh ck key L)(k:κ):dh ck key (wT ck key k L):=h.filter _
theorem dh.inj(hc:kQ ck){L:List T}(h:dh ck key L){a b:T}(ha:a∈L)(hb:b∈L)(e:key a=key b):a=b:=by
 obtain⟨i,hi,rfl⟩:=List.mem_iff_getElem.1 ha
 obtain⟨j,hj,rfl⟩:=List.mem_iff_getElem.1 hb
 rcases Nat.lt_trichotomy i j with hl|rfl|hl
 ·have:=List.pairwise_iff_getElem.1 h i j hi hj hl
  rw[e,hc.self]at this;omega
 ·rfl
 ·have:=List.pairwise_iff_getElem.1 h j i hj hi hl
  rw[e,hc.self]at this;omega
theorem oQ(hc:kQ ck){L:List T}(h:dh ck key L){k:κ}{x:T}:bI ck key k L=some x↔x∈L/\key x=k:=by
 constructor
 ·intro e
  have h1:=List.mem_of_find?_eq_some e
  have h2:=List.find?_some e
  exact⟨h1,(hc.zero _ _).1 (by simpa[FR]using h2)⟩
 ·rintro⟨hx,e⟩
  obtain⟨i,hi,rfl⟩:=List.mem_iff_getElem.1 hx
  exact Kz hc h hi e
theorem QT{k:κ}{L:List T}:(wT ck key k L).length<=L.length:=List.length_filter_le _ _
end
section
variable {S T κ:Type} {ck:κ->κ->Int} {key:T->κ}
theorem E_{f:S->T}{L:List S}{x:S}:eu ck key (f x) (L.map f)=(eu ck (λx=>key (f x)) x L).map f:=by
 unfold eu
 rw[List.filter_map,List.filter_map,List.map_append,List.map_cons];rfl
end
theorem eK:kQ fB:=⟨λa b=>by unfold fB;split<;>(try split)<;>omega,λa b=>by unfold fB;repeat' split<;>omega,λa b d=>by unfold fB;repeat' split<;>omega⟩
theorem KL{a b:Int}:fB a b<0↔a<b:=by unfold fB;split<;>(try split)<;>omega
section
variable {T:Type} {pv:T->List PV}
def tB(L:List T)(k j:Nat):List T:=L.take k++(L.drop (k+1)).take (j-k)++L.drop j
theorem adk(L:List T)(k:Nat):tB L k k=L:=by simp[tB,List.take_append_drop]
theorem PC{L:List T}{k j:Nat}(h1:k<=j)(h2:j<L.length):(tB L k j).length=L.length:=by
 simp only[tB,List.length_append,List.length_take,List.length_drop];omega
theorem TU{L:List T}{k j:Nat}(h1:k<=j)(h2:j+1<L.length):(tB L k j)[j+1]?=some (L[j+1]'h2):=by
 unfold tB
 have hl:(L.take k++(L.drop (k+1)).take (j-k)).length=j:=by
  simp only[List.length_append,List.length_take,List.length_drop];omega
 rw[List.getElem?_append_right (by omega),hl,List.getElem?_drop,List.getElem?_eq_getElem (by omega)]
 congr 2;omega
theorem Md{L:List T}{k j:Nat}(h1:k<=j)(h2:j+1<L.length):(tB L k j).set j (L[j+1]'h2)=tB L k (j+1):=by
 unfold tB
 have hl:(L.take k++(L.drop (k+1)).take (j-k)).length=j:=by
  simp only[List.length_append,List.length_take,List.length_drop];omega
 rw[List.set_append_right _ _ (by omega),hl,Nat.sub_self]
 have e1:L.drop j=(L[j]'(by omega))::L.drop (j+1):=List.drop_eq_getElem_cons (by omega)
 rw[e1,List.set_cons_zero]
 have e2:(L.drop (k+1)).take (j+1-k)=(L.drop (k+1)).take (j-k)++[L[j+1]'h2]:=by
  rw[show j+1-k=j-k+1 by omega,List.take_add_one,List.getElem?_drop,List.getElem?_eq_getElem (by omega)]
  simp only[Option.toList_some]
  congr 3;omega
 rw[e2];simp
theorem PD{L:List T}{k:Nat}(hk:k<L.length):tB L k (L.length-1)=L.eraseIdx k++[L[L.length-1]'(by omega)]:=by
 unfold tB
 rw[List.eraseIdx_eq_take_drop_succ]
 have e1:(L.drop (k+1)).take (L.length-1-k)=L.drop (k+1):=List.take_of_length_le (by simp;omega)
 have e2:L.drop (L.length-1)=[L[L.length-1]'(by omega)]:=by
  rw[List.drop_eq_getElem_cons (by omega)]
  congr 1
  exact List.drop_of_length_le (by omega)
 rw[e1,e2]
end
section
variable (D:SD) (a0:Option Addr) (u0:Mem) (K:Kq) (c:List PV) (e:PV)
def SD.place(ff:FuncId):Prop:=
 ae (Option.isNone a0)
 (K (.aC [pI (0),pB false]) u0)
 (ab D.P ff [pA a0,e] u0 λv u=>
  ∃p q,v=(.aC [pI p,pB q])/\K (.aC [pI p,pB q]) u)
def SD.get(ff:FuncId):Prop:=
 ae (Option.isNone a0)
 (K (.aC [D.E D.Z,pB false]) u0)
 (ab D.P ff [pA a0,e] u0 λv u=>
  ∃p q,v=(.aC [pI p,pB q])/\
  ae (!q)
  (K (.aC [D.E D.Z,pB false]) u)
  (nP a0 λb o=>
   ∃f l,aN u b o 1=some [.list D.W f l]/\
   (0:Int)<=p/\∃(r:List PV),l[Int.toNat p]?=some r/\
   D.X λy=>aA r 0 D.W=some y/\
   K (.aC [D.E y,pB true]) u))
def SD.ZN(ff:FuncId):Prop:=
 ae (Option.isNone a0)
 (K (.aC [D.E D.Z,pB false]) u0)
 (ab D.P ff [pA a0,e] u0 λv u=>
  ∃p q,v=(.aC [pI p,pB q])/\
  ae (!q)
  (K (.aC [D.E D.Z,pB false]) u)
  (nP a0 λb o=>
   ∃s n m,aN u b o 1=some [pV s n m]/\
   bR s λIW HA=>
   (0:Int)<=p/\p<((n:Nat):Int)/\
   D.X λy=>aN u IW (HA+Int.toNat p*D.W) D.W=some y/\
   K (.aC [D.E y,pB true]) u))
def SD.len:Prop:=
 ae (Option.isNone a0)
 (K (pI (0)) u0)
 (nP a0 λb o=>
  ∃f l,aN u0 b o 1=some [.list D.W f l]/\
  K (pI ((List.length l:Nat):Int)) u0)
def SD.drop(ff fo:FuncId):Prop:=
 ae (Option.isNone a0)
 (K (pB false) u0)
 (ab D.P ff [pA a0,e] u0 λv u=>
  ∃p q,v=(.aC [pI p,pB q])/\
  ae (!q)
  (K (pB false) u)
  (ab D.P fo [pA a0] u λLo pK=>
   Lo=(.aC [])/\
   aj (α:=Int) (λnext s uB=>
    nP a0 λb o=>
    ∃x26 abY agc,aN uB b o 1=some [pV x26 abY agc]/\
    ae (decide (((IntKind.wrap .i64 (s+(1))):Int)<((abY:Nat):Int)))
    (nP a0 λIW HA=>
     ∃x34 abQ af9,aN uB IW HA 1=some [pV x34 abQ af9]/\
     nP a0 λVw TN=>
     ∃x39 abN af7,aN uB Vw TN 1=some [pV x39 abN af7]/\
     bR x39 λb_3 YD=>
     (0:Int)<=(IntKind.wrap .i64 (s+(1)))/\(IntKind.wrap .i64 (s+(1)))<((abN:Nat):Int)/\
     D.X λy=>aN uB b_3 (YD+Int.toNat (IntKind.wrap .i64 (s+(1)))*D.W) D.W=some y/\
     bR x34 λVv TK=>
     (0:Int)<=s/\s<((abQ:Nat):Int)/\
     stM Vv (TK+Int.toNat s*D.W) y uB λJB=>
     next (IntKind.wrap .i64 (s+(1))) JB)
    (nP a0 λb_5 o_5=>
     ∃x49 af3 Lm,aN uB b_5 o_5 1=some [pV x49 af3 Lm]/\
     nP a0 λb_6 o_6=>
     ∃x53 SO af2,aN uB b_6 o_6 1=some [pV x53 SO af2]/\
     fW x49/\(0:Int)<=(0:Int)/\(0:Int)<=(IntKind.wrap .i64 (((SO:Nat):Int)-(1)))/\(IntKind.wrap .i64 (((SO:Nat):Int)-(1)))<=((Lm:Nat):Int)/\((Lm:Nat):Int)<=((Lm:Nat):Int)/\
     nP a0 λb_7 o_7=>
     stM b_7 o_7 [pV (sX x49 (Int.toNat (0:Int)) (Int.toNat ((Lm:Nat):Int)) D.W) (Int.toNat (IntKind.wrap .i64 (((SO:Nat):Int)-(1)))-Int.toNat (0:Int)) (Int.toNat ((Lm:Nat):Int)-Int.toNat (0:Int))] uB λGy=>
     K (pB true) Gy))
   p pK))
def SD.from_(a1:Int)(a2:Fn)(SC SB:List PV):Prop:=
 nP a0 λb o=>
 stM b (o+1) [pB true] u0 λu=>
 nP a0 λIW HA=>
 ∃f l,aN u IW HA 1=some [.list D.W f l]/\
 aj (α:=Int) (λnext s pK=>
  ae (decide ((s:Int)<((List.length l:Nat):Int)))
  ((0:Int)<=s/\∃(r25:List PV),l[Int.toNat s]?=some r25/\
   D.X λy=>aA r25 0 D.W=some y/\
   bc D.P (.fn a2 SC SB) [D.E (y.map cu)] pK λv uB=>
   ∃x27,v=(pB x27)/\
   ae (!x27)
   (K (.aC []) uB)
   (next (IntKind.wrap .i64 (s+(1))) uB))
  (K (.aC []) pK))
 a1 u
def SD.aaU(ff:FuncId)(a0:Fn)(Nm Nl c0:List PV):Prop:=
 ∃x3,aA c0 0 1=some [pA x3]/\
 ae (!(Option.isNone x3))
 (∃x5,aA c0 0 1=some [pA x5]/\
  ab D.P ff [pA x5,pI (0),.fn a0 Nm Nl] u0 λv u=>
  v=(.aC [])/\
  K (.aC []) u)
 (K (.aC []) u0)
end
namespace Jh
variable {D:SD} {El κ:Type} {pr:El->List PV} {arg:El->PV} {key:El->κ} {ck:κ->κ->Int} (S:Jh D pr arg key ck)
include S
variable {nf:FuncId} (hf:∀{x:El} {a0:Option Addr} {u0:Mem} {K:Kq},D.find a0 u0 K (arg x)->ab D.P nf [pA a0,arg x] u0 K)
section
include hf
theorem gL{n:FuncId}(hn:∀{x:El} {a0:Option Addr} {u0:Mem} {K:Kq},D.place a0 u0 K (arg x) nf->ab D.P n [pA a0,arg x] u0 K) ⦃L:List bk⦄ ⦃μ:Mem⦄ ⦃b:Nat⦄ ⦃l:List El⦄ (hO:Ow (bp D.TS D.TE D.W b (l.map pr)::L) μ) (hu:dh ck key l) (hl:l.length<=4000000000000000000) (x:El) ⦃K:Kq⦄ (hk:K (.aC [pI (Yx ck key (key x) l:Nat),pB (bI ck key (key x) l).isSome]) μ):ab D.P n [pP b 0,arg x] μ K:=by
 obtain⟨F,h,_⟩:=bp.split hO
 refine hn (ae.f rfl (S.qh hf h hu hl x λk t hf=>⟨_,_,rfl,?_⟩))
 rw[hf.pos S.hc hu,hf.isSome S.hc hu];exact hk
theorem Ar{n:FuncId}(hn:∀{x:El} {a0:Option Addr} {u0:Mem} {K:Kq},D.get a0 u0 K (arg x) nf->ab D.P n [pA a0,arg x] u0 K)(hr:∀{x:El} {a0:Option Addr} {u0:Mem} {K:Kq},D.ZN a0 u0 K (arg x) nf->ab D.P n [pA a0,arg x] u0 K) ⦃L:List bk⦄ ⦃μ:Mem⦄ ⦃b:Nat⦄ ⦃l:List El⦄ (hO:Ow (bp D.TS D.TE D.W b (l.map pr)::L) μ) (hu:dh ck key l) (hl:l.length<=4000000000000000000) (x:El) ⦃K:Kq⦄ (h1:∀y,bI ck key (key x) l=some y->K (.aC [arg y,pB true]) μ) (h0:bI ck key (key x) l=none->K (.aC [D.E D.Z,pB false]) μ):ab D.P n [pP b 0,arg x] μ K:=by
 have hc:=S.hc
 obtain⟨F,h,_⟩:=bp.split hO
 have YR:∀k,bx ck (l.map key) (key x) k true->∃hk:k<l.length,K (.aC [arg l[k],pB true]) μ:=λk hf=>by
  obtain⟨hk,e⟩:=hf.some hc hu
  exact⟨hk,h1 _ e⟩
 have none_:∀{k},l.map pr=[]->bx ck (l.map key) (key x) k true->False:=λhn hf=>by
  obtain⟨hk,_⟩:=YR _ hf
  have:=congrArg List.length hn
  simp at this;subst this;simp at hk
 rcases h.Ml with⟨_,hm⟩|⟨_,Zh,hm⟩|GA
 ·refine hn (ae.f rfl (S.qh hf h hu hl x λk t hf=>⟨_,_,rfl,ae.mk (λht=>?_) (λht=>?_)⟩))
  ·have ht:t=false:=by simpa using ht
   subst ht;exact h0 (hf.none hc)
  ·have ht:t=true:=by simpa using ht
   subst ht
   obtain⟨hk,hK⟩:=YR k hf
   refine⟨_,_,bM hm (by simp),by omega,_,aI hk,S.hX _ _ ⟨S.row _,?_⟩⟩
   rw[S.E];exact hK
 ·refine hn (ae.f rfl (S.qh hf h hu hl x λk t hf=>⟨_,_,rfl,ae.mk (λht=>?_) (λht=>?_)⟩))
  ·have ht:t=false:=by simpa using ht
   subst ht;exact h0 (hf.none hc)
  ·have ht:t=true:=by simpa using ht
   subst ht
   exact(none_ Zh hf).elim
 ·refine hr (ae.f rfl (S.qh hf h hu hl x λk t hf=>⟨_,_,rfl,ae.mk (λht=>?_) (λht=>?_)⟩))
  ·have ht:t=false:=by simpa using ht
   subst ht;exact h0 (hf.none hc)
  ·have ht:t=true:=by simpa using ht
   subst ht
   obtain⟨hk,hK⟩:=YR k hf
   rcases GA with⟨_,Zh,_⟩|⟨b',c,rest,_,_,hm,nv,_⟩
   ·exact(none_ Zh hf).elim
   ·refine⟨_,_,_,bM hm (by simp),by omega,by simpa using hk,S.hX l[k] _ ⟨?_,?_⟩⟩
    ·rw[Int.toNat_natCast,Nat.zero_add]
     exact Ep (S.each l) nv (by rw[List.getElem?_map,List.getElem?_eq_getElem hk];rfl)
    ·rw[S.E];exact hK
end
omit S in
theorem FY{n:FuncId}(hn:∀{a0:Option Addr} {u0:Mem} {K:Kq},D.len a0 u0 K->ab D.P n [pA a0] u0 K) ⦃L:List bk⦄ ⦃μ:Mem⦄ ⦃b:Nat⦄ ⦃l:List El⦄ (hO:Ow (bp D.TS D.TE D.W b (l.map pr)::L) μ) ⦃K:Kq⦄ (hk:K (pI (l.length:Nat)) μ):ab D.P n [pP b 0] μ K:=by
 obtain⟨F,h,_⟩:=bp.split hO
 refine gv.query h (Kq:=λp=>p=pI (l.length:Nat)) (λs=>hn (ae.f rfl ⟨_,_,xW (Mem.ai _ _ _) (by simp),by simp⟩)) (λp e=>by rw[e];rfl) λp e=>by rw[e];exact hk
section
variable {no:FuncId} (ho:∀{a0:Option Addr} {u0:Mem} {K:Kq},D.own a0 u0 K->ab D.P no [pA a0] u0 K)
include ho
include hf
theorem BG{n:FuncId}(hn:∀{x:El} {a0:Option Addr} {u0:Mem} {K:Kq},D.drop a0 u0 K (arg x) nf no->ab D.P n [pA a0,arg x] u0 K) ⦃L:List bk⦄ ⦃μ:Mem⦄ ⦃b:Nat⦄ ⦃l:List El⦄ (hO:Ow (bp D.TS D.TE D.W b (l.map pr)::L) μ) (hu:dh ck key l) (hl:l.length<=999999999) (x:El) ⦃K:Kq⦄ (hk:∀μ',Ow (bp D.TS D.TE D.W b ((wT ck key (key x) l).map pr)::L) μ'->K (pB (bI ck key (key x) l).isSome) μ'):ab D.P n [pP b 0,arg x] μ K:=by
 have hc:=S.hc
 have each:=S.each
 have hW:=S.W0
 obtain⟨F,h,Fx⟩:=bp.split hO
 refine hn ?_
 refine ae.f rfl (S.qh hf h hu (by omega) x λk t hf=>⟨_,_,rfl,ae.mk (λht=>?_) (λht=>?_)⟩)
 ·have ht:t=false:=by simpa using ht
  subst ht
  have en:=hf.none hc
  have e1:wT ck key (key x) l=l:=by
   unfold wT
   refine List.filter_eq_self.2 λy hy=>?_
   have:=(de hc).1 en y hy
   simp only[FR,Bool.not_eq_true',decide_eq_false_iff_not,hc.zero];exact this
  rw[e1,en]at hk
  exact hk μ hO
 ·have ht:t=true:=by simpa using ht
  subst ht
  obtain⟨Su,es⟩:=hf.some hc hu
  rw[<- hf.del hc hu,es]at hk
  refine S.IF ho h (by omega) λμ1 F1 hr qv=>⟨rfl,?_⟩
  rcases hr with⟨_,hn,_⟩|⟨b',c,rest,rfl,bm,hb,jO,kK,Bo⟩
  ·have:(l.map pr).length=0:=by rw[hn];rfl
   simp at this;subst this;simp at Su
  ·rw[List.length_map]at hb kK Bo
   refine aj.from (s:=k) (n:=l.length-1) (by omega) (by omega) (λj u=>u b=some (.cells D.TS [.raw (.slice (some ⟨b',0,none⟩) l.length c),pB false])/\u b'=some (.cells D.TE (((tB l k j).map pr).flatten++rest))/\Mv μ1 u [b,b'] [b,b']) ⟨hb,by rw[adk];exact jO,Mv.refl _ _⟩ ?_ ?_
   ·rintro j u next Zm Zo ⟨i1,i2,i3⟩ ar
    have Fp:IntKind.wrap .i64 ((j:Int)+1)=((j+1:Nat):Int):=by rw[aB (by omega) (by omega)];omega
    have uE:((tB l k j).map pr).length=l.length:=by rw[List.length_map,PC Zm (by omega)]
    have eF:aN u b' (0+Int.toNat (IntKind.wrap .i64 ((j:Int)+1))*D.W) D.W=some (pr (l[j+1]'(by omega))):=by
     rw[Fp,Int.toNat_natCast,Nat.zero_add]
     exact Ep (each _) i2 (by rw[List.getElem?_map,TU Zm (by omega)];rfl)
    refine⟨_,_,_,bM i1 (by simp),ae.t (by rw[Fp];simp;omega) ?_⟩
    refine⟨_,_,_,bM i1 (by simp),?_⟩
    refine⟨_,_,_,bM i1 (by simp),?_⟩
    refine⟨by rw[Fp];omega,by rw[Fp];omega,S.hX _ _ ⟨eF,?_⟩⟩
    refine⟨by omega,by omega,_,_,i2,?_,ar _ ⟨?_,?_,?_⟩⟩
    ·have iB:=dw (each (tB l k j))
     rw[uE]at iB
     rw[List.length_append,iB,Int.toNat_natCast,S.len,Nat.zero_add,<- Nat.succ_mul]
     exact Nat.le_trans (Nat.mul_le_mul_right _ (by omega)) (Nat.le_add_right _ _)
    ·rw[Mem.aw _ _ (Ne.symm bm)];exact i1
    ·rw[Mem.ai,Int.toNat_natCast,Nat.zero_add,AG (r:=pr (l[j+1]'(by omega))) (each _) (by rw[uE];omega) (S.len _),<- List.map_set,Md Zm (by omega)]
    ·exact(i3.trans (Mv.set (.inl (by simp)))).sub (by simp)
   ·rintro u next ⟨i1,i2,i3⟩
    have Fp:IntKind.wrap .i64 (((l.length-1:Nat):Int)+1)=((l.length:Nat):Int):=by rw[aB (by omega) (by omega)];omega
    have Ur:IntKind.wrap .i64 (((l.length:Nat):Int)-1)=((l.length-1:Nat):Int):=by rw[aB (by omega) (by omega)];omega
    refine⟨_,_,_,bM i1 (by simp),ae.f (by rw[Fp];simp) ?_⟩
    refine⟨_,_,_,bM i1 (by simp),?_⟩
    refine⟨_,_,_,bM i1 (by simp),?_⟩
    refine⟨λa ha=>by cases ha;rfl,by omega,by rw[Ur];omega,by rw[Ur];omega,by omega,_,_,i1,by simp,?_⟩
    rw[Ur]
    have NF:(l.eraseIdx k).length=l.length-1:=by rw[List.length_eraseIdx,if_pos Su]
    refine hk _ (Fx (F':=[b,b']) (qv.trans ((i3.trans (Mv.set (.inl (by simp)))).sub (by simp))) ⟨each _,S.cell _,.inr (.inr (.inr ⟨b',c,pr (l[l.length-1]'(by omega))++rest,rfl,bm,?_,?_,?_,?_⟩))⟩)
    ·rw[Mem.ai,List.length_map,NF]
     have e0:sX (some ⟨b',0,none⟩) (Int.toNat 0) (Int.toNat ((c:Nat):Int)) D.W=some ⟨b',0,none⟩:=by
      unfold sX
      rw[if_neg (by simp;omega)];simp
     rw[e0]
     simp[ei]
    ·rw[Mem.aw _ _ bm,i2,PD Su,List.map_append,List.flatten_append]
     simp
    ·rw[List.length_map,NF,List.length_append,S.len,<- Nat.add_assoc,<- Nat.succ_mul,show(l.length-1).succ=l.length by omega]
     exact kK
    ·rw[List.length_map,NF];omega
end
theorem rF{na nfr:FuncId}(h1:∀{a0:Fn} {Nm Nl c0:List PV} {u0:Mem} {K:Kq},D.aaU u0 K nfr a0 Nm Nl c0->ab D.P na [.fn a0 Nm Nl,.bl c0 0] u0 K)
  (h2:∀{a0:Option Addr} {a1:Int} {a2:Fn} {SC SB:List PV} {u0:Mem} {K:Kq},D.from_ a0 u0 K a1 a2 SC SB->ab D.P nfr [pA a0,pI a1,.fn a2 SC SB] u0 K)
  (b:Nat) (l:List El) (hl:l.length<=4000000000000000000):jY D.P (.fn (.func na) [] [.bl [pP b 0] 0]) (l.map λx=>[arg x]) (bp D.TS D.TE D.W b (l.map pr)) (bp D.TS D.TE D.W b (l.map pr)):=by
 refine jY.mk λfy ya yb I A C μ hy hO h0 cQ=>?_
 show ab _ _ [.fn fy ya yb,.bl [pP b 0] 0] _ _
 refine h1 ⟨_,rfl,ae.t rfl ⟨_,rfl,?_⟩⟩
 obtain⟨F,h,Fx⟩:=bp.split hO
 obtain⟨μ0,s,hG,hm,ND⟩:=h.list
 refine ab.pre hG (h2 ?_)
 refine⟨_,_,hm,by simp,?_⟩
 have h1:Ow [bp D.TS D.TE D.W b (l.map pr),C] (μ0.set b (some (.cells D.TS (ei [.list D.W .sh (l.map pr),pB s] (0+1) [pB true])))):=Fx (F':=[b]) ((ND.trans (Mv.set (.inl (by simp)))).sub (by simp)) ⟨S.each l,S.cell l,.inl ⟨rfl,by rw[Mem.ai];rfl⟩⟩
 refine⟨_,_,bM (Mem.ai _ _ _) (by simp[ei]),?_⟩
 rw[List.length_map]
 refine aj.each (n:=l.length) (by omega) (λi u=>Ow [I i] u) (h0 _ h1) ?_ ?_
 ·intro i u next hi hI ar
  have iu:=cQ i (by simpa using hi)
  rw[List.getElem_map]at iu
  refine ae.t (by simpa using hi) ⟨by omega,_,aI hi,S.hX _ _ ⟨S.row _,?_⟩⟩
  rw[S.E']
  refine Ow.FU hI (λν hν=>iu ν hν) λv μ' MJ=>?_
  rcases MJ.B_ with⟨rfl,h⟩|⟨rfl,h⟩
  ·exact⟨true,rfl,ae.f rfl (ar _ h)⟩
  ·exact⟨false,rfl,ae.t rfl ⟨rfl,.inr h⟩⟩
 ·intro u next hI
  refine ae.f (by simp) ⟨rfl,.inl ?_⟩
  simp only[List.length_map];exact hI
end Jh
end Go.az
namespace Go.az
open Go.RowKit
section
variable (M:MD) (a0:Option Addr) (u0:Mem) (K:Kq) (ek:PV) (fg fp fd:FuncId)
def MD.look(J:Option Addr×Bool->Mem->Prop):Prop:=
 nP a0 λb o=>
 ∃x,aN u0 b o 1=some [pA x]/\
 (dg M.S.P M.at_ [ek] u0 λv pK=>
  M.S.X λy=>v=M.S.E y/\
  (ab M.S.P fg [pA x,M.S.E (y.map cu)] (Mem.or u0 pK) λLo uB=>
   M.S.X λy2=>∃q,Lo=(.aC [M.S.E y2,pB q])/\
   ∀(b7:Nat),uB b7=none->
   stM b7 0 y2 (Mem.set uB b7 (some (.cells M.S.TE M.S.Z))) λJB=>
   J ((some ⟨b7,0,none⟩),q) JB)/\
  (∀(b7:Nat),(Mem.or u0 pK) b7=none->
   ab M.S.P fg [pA x,M.S.E (y.map cu)] (Mem.set (Mem.or u0 pK) b7 (some (.cells M.S.TE M.S.Z))) λXG Gy=>
   M.S.X λy2=>∃q,XG=(.aC [M.S.E y2,pB q])/\
   stM b7 0 y2 Gy λXP=>
   J ((some ⟨b7,0,none⟩),q) XP))/\
 (∀(b7:Nat),u0 b7=none->
  dg M.S.P M.at_ [ek] (Mem.set u0 b7 (some (.cells M.S.TE M.S.Z))) λv_3 u_6=>
  M.S.X λy=>v_3=M.S.E y/\
  ab M.S.P fg [pA x,M.S.E (y.map cu)] (Mem.or (Mem.set u0 b7 (some (.cells M.S.TE M.S.Z))) u_6) λXF XN=>
  M.S.X λy2=>∃q,XF=(.aC [M.S.E y2,pB q])/\
  stM b7 0 y2 XN λu_8=>
  J ((some ⟨b7,0,none⟩),q) u_8)
def MD.get:Prop:=
 ae (Option.isNone a0)
 (K (.aC [M.EV M.ZV,pB false]) u0)
 (cw (α:=Option Addr×Bool) (λJ=>M.look a0 u0 ek fg J)
  (λs u=>
   bD (.raw (.pointer s.1)) λb o=>
   M.XV λy=>aN u b (o+M.WK) M.WV=some y/\
   K (.aC [M.EV y,pB s.2]) u))
def MD.put(pg:PV)(cv:List PV):Prop:=
 ae (Option.isNone a0)
 (K (pB false) u0)
 (cw (α:=Option Addr×Bool) (λJ=>M.look a0 u0 ek fg J)
  (λs u=>
   ae (!s.2)
   (nP a0 λb o=>
    ∃x,aN u b o 1=some [pA x]/\
    ab M.S.P fp [pA x,pg] u λv u_9=>
    ∃r,v=(pB r)/\
    K (pB r) u_9)
   (nP a0 λb o=>
    ∃x,aN u b o 1=some [pA x]/\
    bD (.raw (.pointer s.1)) λb_3 YD=>
    M.S.X λy=>aN u b_3 YD M.S.W=some y/\
    ab M.S.P fd [pA x,M.S.E (y.map cu)] u λv Ls=>
    ∃r,v=(pB r)/\
    nP a0 λVv TK=>
    ∃x1,aN Ls Vv TK 1=some [pA x1]/\
    bD (.raw (.pointer s.1)) λb_5 o_5=>
    M.XK λyk=>aN Ls b_5 o_5 M.WK=some yk/\
    ab M.S.P fp [pA x1,.agg (yk++cv)] Ls λv_7 zW=>
    ∃r,v_7=(pB r)/\
    K (pB false) zW)))
def MD.new(fn:FuncId):Prop:=
 ab M.S.P fn [.list M.S.W .nil []] u0 λv u=>
 ∃x,v=(pA x)/\
 ca u M.TM [pA x] λb3 pK=>
 K (pP b3 0) pK
end
section
variable (D:SD) {El κ:Type} (pr:El->List PV) (arg:El->PV) (key:El->κ) (ck:κ->κ->Int) (n:FuncId)
abbrev VI:Prop:=∀ ⦃L:List bk⦄ ⦃μ:Mem⦄ ⦃b:Nat⦄ ⦃l:List El⦄,Ow (bp D.TS D.TE D.W b (l.map pr)::L) μ->dh ck key l->l.length<=4000000000000000000->∀(x:El) ⦃K:Kq⦄,(∀y,bI ck key (key x) l=some y->K (.aC [arg y,pB true]) μ)->(bI ck key (key x) l=none->K (.aC [D.E D.Z,pB false]) μ)->ab D.P n [pP b 0,arg x] μ K
abbrev aa3:Prop:=∀ ⦃L:List bk⦄ ⦃μ:Mem⦄ ⦃b:Nat⦄ ⦃l:List El⦄,Ow (bp D.TS D.TE D.W b (l.map pr)::L) μ->dh ck key l->l.length<=999999999->∀(x:El) ⦃K:Kq⦄,(∀μ',Ow (bp D.TS D.TE D.W b ((bC ck key x l).map pr)::L) μ'->K (pB (bI ck key (key x) l).isNone) μ')->ab D.P n [pP b 0,arg x] μ K
abbrev ae7:Prop:=∀ ⦃L:List bk⦄ ⦃μ:Mem⦄ ⦃b:Nat⦄ ⦃l:List El⦄,Ow (bp D.TS D.TE D.W b (l.map pr)::L) μ->dh ck key l->l.length<=999999999->∀(x:El) ⦃K:Kq⦄,(∀μ',Ow (bp D.TS D.TE D.W b ((wT ck key (key x) l).map pr)::L) μ'->K (pB (bI ck key (key x) l).isSome) μ')->ab D.P n [pP b 0,arg x] μ K
end
def cm(M:MD){El:Type}(pr:El->List PV)(m:Nat)(l:List El):bk:=λμ=>∃s,Ow [Pt m M.TM [pP s 0],bp M.S.TS M.S.TE M.S.W s (l.map pr)] μ
theorem cm.open_{M:MD}{El:Type}{pr:El->List PV}{m:Nat}{l:List El}{L:List bk}{μ:Mem}(h:Ow (cm M pr m l::L) μ):∃s,Ow (Pt m M.TM [pP s 0]::bp M.S.TS M.S.TE M.S.W s (l.map pr)::L) μ:=by
 obtain⟨s,h⟩:=Ow.ex h
 exact⟨s,h.nest⟩
theorem cm.rD{M:MD}{El:Type}{pr:El->List PV}{m s:Nat}{l:List El}{L:List bk}{μ:Mem}(h:Ow (Pt m M.TM [pP s 0]::bp M.S.TS M.S.TE M.S.W s (l.map pr)::L) μ):Ow (cm M pr m l::L) μ:=
 (Ow.pack (L1:=[Pt m M.TM [pP s 0],bp M.S.TS M.S.TE M.S.W s (l.map pr)]) h).imp λ_ hν=>⟨s,hν⟩
theorem SR{cs vs:List PV}(h:vs.length=cs.length):ei cs 0 vs=vs:=by
 unfold ei
 rw[List.take_zero,List.nil_append,Nat.zero_add,h,List.drop_length,List.append_nil]
section
variable {κ T:Type} {ck:κ->κ->Int} {key:T->κ}
theorem Pe{x:T}{l:List T}(h:bI ck key (key x) l=none):bC ck key x l=eu ck key x l:=by rw[bC,h];rfl
theorem Uf(hc:kQ ck){x y:T}{l:List T}(hu:dh ck key l)(e:key x=key y):bC ck key x (wT ck key (key y) l)=eu ck key x l:=by
 have hn:bI ck key (key x) (wT ck key (key y) l)=none:=(de hc).2 λa ha=>by
  have:=((ES hc).1 ha).2
  rw[e];exact this
 rw[bC,hn]
 refine dh.ext hc ((hu.del _).ins hc x) (hu.ins hc x) λa=>?_
 show a∈eu ck key x _↔_
 rw[cF hc,cF hc,ES hc,e]
 constructor
 ·rintro(h|⟨⟨h,_⟩,h2⟩)
  ·exact .inl h
  ·exact .inr ⟨h,h2⟩
 ·rintro(h|⟨h,h2⟩)
  ·exact .inl h
  ·exact .inr ⟨⟨h,h2⟩,h2⟩
end
namespace zG
variable {M:MD} {KY VL κ:Type} {pr:KY×VL->List PV} {arg:KY×VL->PV} {pk:KY->List PV} {eL:KY->PV} {pl:VL->List PV} {sd:VL->PV} {z:VL} {key:KY×VL->κ} {ck:κ->κ->Int} (O:zG M pr arg pk eL pl sd z key ck)
def In(M:MD)(pr:KY×VL->List PV)(z:VL)(key:KY×VL->κ)(ck:κ->κ->Int)(m s b7:Nat)(l:List (KY×VL))(L:List bk)(k:KY)(t:Bool):bk:=λu=>
 (∃y,bI ck key (key (k,z)) l=some y/\t=true/\Ow (Pt b7 M.S.TE (pr y)::Pt m M.TM [pP s 0]::bp M.S.TS M.S.TE M.S.W s (l.map pr)::L) u)\/
 (bI ck key (key (k,z)) l=none/\t=false/\Ow (Pt b7 M.S.TE M.S.Z::Pt m M.TM [pP s 0]::bp M.S.TS M.S.TE M.S.W s (l.map pr)::L) u)
include O
theorem len(x:KY×VL):(pr x).length=M.WK+M.WV:=by
 obtain⟨k,v⟩:=x
 rw[O.hp,List.length_append,O.lk,O.lv]
theorem fst(x:KY×VL):(pr x).take M.WK=pk x.1:=by
 obtain⟨k,v⟩:=x
 rw[O.hp,<- O.lk k,List.take_left]
theorem snd(x:KY×VL):(pr x).drop M.WK=pl x.2:=by
 obtain⟨k,v⟩:=x
 rw[O.hp,<- O.lk k,List.drop_left]
theorem look{fg:FuncId}(hg:VI M.S pr arg key ck fg){L:List bk}{μ:Mem}{m s:Nat}{l:List (KY×VL)}(hO:Ow (Pt m M.TM [pP s 0]::bp M.S.TS M.S.TE M.S.W s (l.map pr)::L) μ)(hu:dh ck key l)(hl:l.length<=4000000000000000000)(k:KY){J:Option Addr×Bool->Mem->Prop}(hJ:∀b7 t u,In M pr z key ck m s b7 l L k t u->J (some ⟨b7,0,none⟩,t) u):
  M.look (some ⟨m,0,none⟩) μ (eL k) fg J:=by
 have e1:∀y,M.S.E (pr y)=arg y:=O.S.E
 have e2:∀y,M.S.E ((pr y).map cu)=arg y:=O.S.E'
 have Eb:∀{b7:Nat} {u:Mem} {L':List bk} {t:Bool} {c:List PV},c.length=M.S.Z.length->Ow (Pt b7 M.S.TE M.S.Z::L') u->(∀u',Ow (Pt b7 M.S.TE c::L') u'->J (some ⟨b7,0,none⟩,t) u')->stM b7 0 c u λu'=>J (some ⟨b7,0,none⟩,t) u':=λhc h hk=>h.st 0 rfl (by omega) λu' h'=>hk u' (by
  have h'':=h'
  rw[SR hc]at h'';exact h'')
 have ln:∀y,(pr y).length=M.S.Z.length:=λy=>by rw[O.S.len,O.S.zl]
 have two:∀{b7:Nat} {u:Mem},Ow (Pt b7 M.S.TE M.S.Z::Pt m M.TM [pP s 0]::bp M.S.TS M.S.TE M.S.W s (l.map pr)::L) u->ab M.S.P fg [pA (some ⟨s,0,none⟩),arg (k,z)] u λXG Gy=>M.S.X λy2=>∃q,XG=(.aC [M.S.E y2,pB q])/\stM b7 0 y2 Gy λXP=>J ((some ⟨b7,0,none⟩),q) XP:=λ{b7 u} h=>
  hg (Ow.at 2 rfl h) hu hl (k,z) (λy hy=>O.S.hX y _ ⟨true,by rw[e1],Eb (ln y) h λu' h'=>hJ _ _ _ (.inl ⟨y,hy,rfl,h'⟩)⟩) (λhy=>O.hz _ ⟨false,rfl,Eb rfl h λu' h'=>hJ _ _ _ (.inr ⟨hy,rfl,h'⟩)⟩)
 refine⟨_,hO.rd 0 rfl (by simp),(O.at_ k).q (O.S.hX (k,z) _ ⟨(e1 _).symm,?_⟩),λb7 Uv=>(O.at_ k).q (O.S.hX (k,z) _ ⟨(e1 _).symm,?_⟩)⟩
 ·rw[Mem.tw,e2]
  refine⟨hg hO.swap hu hl (k,z) (λy hy=>O.S.hX y _ ⟨true,by rw[e1],λb7 Uv=>?_⟩) (λhy=>O.hz _ ⟨false,rfl,λb7 Uv=>?_⟩),λb7 Uv=>two (hO.new _ _ Uv)⟩
  ·exact Eb (ln y) (hO.new _ _ Uv) λu' h'=>hJ _ _ _ (.inl ⟨y,hy,rfl,h'⟩)
  ·exact Eb rfl (hO.new _ _ Uv) λu' h'=>hJ _ _ _ (.inr ⟨hy,rfl,h'⟩)
 ·rw[Mem.tw,e2]
  exact two (hO.new _ _ Uv)
theorem rdV{b7:Nat}{L:List bk}{u:Mem}{y:KY×VL}(h:Ow (Pt b7 M.S.TE (pr y)::L) u):aN u b7 (0+M.WK) M.WV=some (pl y.2):=by
 have:=h.rd 0 rfl (o:=0+M.WK) (n:=M.WV) (by rw[O.len];omega)
 rw[this,Nat.zero_add,O.snd,<- O.lv y.2,List.take_length]
theorem rdZ{b7:Nat}{L:List bk}{u:Mem}(h:Ow (Pt b7 M.S.TE M.S.Z::L) u):aN u b7 (0+M.WK) M.WV=some M.ZV:=by
 have:=h.rd 0 rfl (o:=0+M.WK) (n:=M.WV) (by rw[O.S.zl,O.W];omega)
 rw[this,Nat.zero_add,O.zV,<- O.zl,List.take_length]
theorem rdE{b7:Nat}{L:List bk}{u:Mem}{y:KY×VL}{i:Nat}(h:Ow L u)(hi:L[i]?=some (Pt b7 M.S.TE (pr y))):aN u b7 0 M.S.W=some (pr y):=by
 have:=h.rd i hi (o:=0) (n:=M.S.W) (by rw[O.S.len];omega)
 rw[this,List.drop_zero,<- O.S.len y,List.take_length]
theorem rdK{b7:Nat}{L:List bk}{u:Mem}{y:KY×VL}{i:Nat}(h:Ow L u)(hi:L[i]?=some (Pt b7 M.S.TE (pr y))):aN u b7 0 M.WK=some (pk y.1):=by
 have:=h.rd i hi (o:=0) (n:=M.WK) (by rw[O.len];omega)
 rw[this,List.drop_zero,O.fst]
section
variable {fg:FuncId} (hg:VI M.S pr arg key ck fg)
include hg
theorem tV{n:FuncId}(hn:∀{k:KY} {a0:Option Addr} {u0:Mem} {K:Kq},M.get a0 u0 K (eL k) fg->ab M.S.P n [pA a0,eL k] u0 K) ⦃L:List bk⦄ ⦃μ:Mem⦄ ⦃m:Nat⦄ ⦃l:List (KY×VL)⦄ (hO:Ow (cm M pr m l::L) μ) (hu:dh ck key l) (hl:l.length<=4000000000000000000) (k:KY) ⦃K:Kq⦄ (h1:∀y μ',bI ck key (key (k,z)) l=some y->Ow (cm M pr m l::L) μ'->K (.aC [sd y.2,pB true]) μ') (h0:∀μ',bI ck key (key (k,z)) l=none->Ow (cm M pr m l::L) μ'->K (.aC [M.EV M.ZV,pB false]) μ'):ab M.S.P n [pP m 0,eL k] μ K:=by
 obtain⟨s,hO⟩:=cm.open_ hO
 refine hn (ae.f rfl ⟨λr u=>∃b7,r.1=some ⟨b7,0,none⟩/\In M pr z key ck m s b7 l L k r.2 u,O.look hg hO hu hl k λb7 t u h=>⟨b7,rfl,h⟩,?_⟩)
 rintro⟨_,t⟩ u ⟨b7,rfl,⟨y,hy,rfl,dZ⟩|⟨hy,rfl,dZ⟩⟩
 ·exact O.hV y.2 _ ⟨O.rdV dZ,by rw[O.EV];exact h1 y _ hy (cm.rD dZ.drop)⟩
 ·exact O.hzV _ ⟨O.rdZ dZ,h0 _ hy (cm.rD dZ.drop)⟩
theorem zg{fp fd n:FuncId}(Ia:aa3 M.S pr arg key ck fp)(aeg:ae7 M.S pr arg key ck fd)(hn:∀{k:KY} {v:VL} {a0:Option Addr} {u0:Mem} {K:Kq},M.put a0 u0 K (eL k) fg fp fd (arg (k,v)) (pl v)->ab M.S.P n [pA a0,eL k,sd v] u0 K) ⦃L:List bk⦄ ⦃μ:Mem⦄ ⦃m:Nat⦄ ⦃l:List (KY×VL)⦄ (hO:Ow (cm M pr m l::L) μ) (hu:dh ck key l) (hl:l.length<=999999998) (k:KY) (v:VL) ⦃K:Kq⦄ (hk:∀μ',Ow (cm M pr m (eu ck key (k,v) l)::L) μ'->K (pB (bI ck key (key (k,z)) l).isNone) μ'):ab M.S.P n [pP m 0,eL k,sd v] μ K:=by
 have hc:=O.S.hc
 obtain⟨s,hO⟩:=cm.open_ hO
 have ekz:key (k,v)=key (k,z):=O.kv _ _ _
 refine hn (ae.f rfl ⟨λr u=>∃b7,r.1=some ⟨b7,0,none⟩/\In M pr z key ck m s b7 l L k r.2 u,O.look hg hO hu (by omega) k λb7 t u h=>⟨b7,rfl,h⟩,?_⟩)
 rintro⟨_,t⟩ u ⟨b7,rfl,⟨y,hy,rfl,dZ⟩|⟨hy,rfl,dZ⟩⟩
 ·obtain⟨hym,hyk⟩:=(oQ hc hu).1 hy
  have akl:y.1=k:=O.inj y.1 y.2 k z hyk
  refine ae.f rfl ⟨_,dZ.rd 1 rfl (by simp),O.S.hX y _ ⟨O.rdE dZ (i:=0) rfl,?_⟩⟩
  rw[O.S.E']
  refine aeg (Ow.at 2 rfl dZ) hu (by omega) y λu2 Mo=>⟨_,rfl,?_⟩
  have hlen:=QT (ck:=ck) (key:=key) (k:=key y) (L:=l)
  refine⟨_,Mo.rd 2 rfl (by simp),O.hK y.1 _ ⟨O.rdK Mo (i:=1) rfl,?_⟩⟩
  have e2:(PV.agg (pk y.1++pl v))=arg (k,v):=by rw[O.ha,O.hp,akl]
  rw[e2]
  refine Ia (x:=(k,v)) Mo (hu.del _) (by omega) λu4 hu4=>⟨_,rfl,?_⟩
  rw[Uf hc hu (x:=(k,v)) (y:=y) (by rw[ekz,hyk])]at hu4
  have:=hk u4 (cm.rD ((Ow.at 2 rfl hu4).tail λ_ h=>h.tail λ_ h=>h.drop))
  rw[hy]at this
  exact this
 ·refine ae.t rfl ⟨_,dZ.rd 1 rfl (by simp),?_⟩
  refine Ia (Ow.at 2 rfl dZ) hu (by omega) (k,v) λu2 Mo=>⟨_,rfl,?_⟩
  rw[ekz,hy]
  rw[Pe (by rw[ekz];exact hy)]at Mo
  have:=hk u2 (cm.rD ((Ow.at 2 rfl Mo).tail λ_ h=>h.tail λ_ h=>h.drop))
  rw[hy]at this
  exact this
end
end zG
theorem MD.gX{M:MD}{El:Type}{pr:El->List PV}{n fn:FuncId}(hn:∀{u0:Mem} {K:Kq},M.new u0 K fn->ab M.S.P n [] u0 K)
  (lR:∀ ⦃L:List bk⦄ ⦃μ:Mem⦄,Ow L μ->∀ ⦃K:Kq⦄,(∀μ' b,Ow (bp M.S.TS M.S.TE M.S.W b (([]:List El).map pr)::L) μ'->K (pP b 0) μ')->ab M.S.P fn [.list M.S.W .nil []] μ K)
  ⦃L:List bk⦄ ⦃μ:Mem⦄ (hO:Ow L μ) ⦃K:Kq⦄ (hk:∀μ' m,Ow (cm M pr m ([]:List El)::L) μ'->K (pP m 0) μ'):ab M.S.P n [] μ K:=
 hn (lR hO λμ1 b h1=>⟨_,rfl,λm hm=>hk _ m (cm.rD (h1.new M.TM [pP b 0] hm))⟩)
end Go.az
namespace Go.az
open Go.RowKit
structure Goal where
 st:Sym
 kind:Int
 attr:ByteArray
 items:List Sym
 op:Sym
structure eC where
 id:Sym
 attr:Sym
 value:Sym
 other:Sym
 kind:Int
 o:Bool
 level:Int
 Gb:Int
structure ma where
 num:Int
 level:Int
 name:ByteArray
 tags:List Int
 o:Bool
structure a_ where
 elems:List av
 aS:List eC
 goals:List Goal
 insts:List ma
 cD:List (List Int)
 JX:List ByteArray
 syms:Int
 c1:Int
 c2:Int
 c3:Int
 c4:Int
 c5:Int
 c6:Int
@[reducible] def HW(n:Int):List PV:=[pI n]
@[reducible] def Goal.pv(g:Goal):List PV:=[pI g.st.k,pS g.st.t,pI g.st.n,pI g.kind,pS g.attr,.list 3 .sh (g.items.map Sym.pv),pI g.op.k,pS g.op.t,pI g.op.n]
@[reducible] def eC.pv(p:eC):List PV:=[pI p.id.k,pS p.id.t,pI p.id.n,pI p.attr.k,pS p.attr.t,pI p.attr.n,pI p.value.k,pS p.value.t,pI p.value.n,pI p.other.k,pS p.other.t,pI p.other.n,pI p.kind,pB p.o,pI p.level,pI p.Gb]
@[reducible] def ma.pv(i:ma):List PV:=[pI i.num,pI i.level,pS i.name,.list 1 .sh (i.tags.map HW),pB i.o]
@[reducible] def Da(l:List Int):List PV:=[.list 1 .sh (l.map HW)]
@[reducible] def OG(s:ByteArray):List PV:=[pS s]
@[reducible] def a_.pv(v:a_):List PV:=[.list 12 .sh (v.elems.map av.pv),.list 16 .sh (v.aS.map eC.pv),.list 9 .sh (v.goals.map Goal.pv),.list 5 .sh (v.insts.map ma.pv),.list 1 .sh (v.cD.map Da),.list 1 .sh (v.JX.map OG),pI v.syms,pI v.c1,pI v.c2,pI v.c3,pI v.c4,pI v.c5,pI v.c6]
theorem aF:kQ aJ:=
 u_ eK (u_ dJ eK (λp:ByteArray×Int=>p.1) (λp=>p.2) λa b h1 h2=>Prod.ext h1 h2) (λs:Sym=>s.k) (λs=>(s.t,s.n)) λa b h1 h2=>by
  obtain⟨a,b,c⟩:=a
  simp only[Prod.mk.injEq]at h1 h2
  obtain⟨rfl,rfl⟩:=h2
  subst h1;rfl
def aeJ(a b:Bool):Int:=if a=b then 0 else if b then -1 else 1
theorem UU:kQ aeJ:=⟨by decide,by decide,by decide⟩
abbrev NL:=Sym×Sym×Sym×Bool
def av.key(e:av):NL:=(e.id,e.attr,e.value,e.acc)
def WQ(a b:Sym×Bool):Int:=if aJ a.1 b.1=0 then aeJ a.2 b.2 else aJ a.1 b.1
def WR(a b:Sym×Sym×Bool):Int:=if aJ a.1 b.1=0 then WQ a.2 b.2 else aJ a.1 b.1
def fO(a b:NL):Int:=if aJ a.1 b.1=0 then WR a.2 b.2 else aJ a.1 b.1
theorem jC(a b:av):fO a.key b.key=if aJ a.id b.id=0 then(if aJ a.attr b.attr=0 then(if aJ a.value b.value=0 then(if a.acc=b.acc then 0 else if b.acc then -1 else 1)else aJ a.value b.value)else aJ a.attr b.attr)else aJ a.id b.id:=rfl
theorem Rd:kQ WQ:=u_ aF UU (λp:Sym×Bool=>p.1) (λp=>p.2) λa b h1 h2=>Prod.ext h1 h2
theorem Re:kQ WR:=u_ aF Rd (λp:Sym×Sym×Bool=>p.1) (λp=>p.2) λa b h1 h2=>Prod.ext h1 h2
theorem cH:kQ fO:=u_ aF Re (λp:NL=>p.1) (λp=>p.2) λa b h1 h2=>Prod.ext h1 h2
end Go.az
namespace Go.Proofs.YtbkejjmjopgpoaaGreat
open Go.Proofs.Tryz Go.az Go.RowKit
theorem aaD(a b:av):Pure prog 494 [.agg a.pv,.agg b.pv] (pI (fO a.key b.key)):=by
 refine ax.of (sK.c ?_)
 refine(iE a.id b.id).call ⟨_,rfl,ae.mk (λh=>?_) (λh=>(iE a.attr b.attr).call ⟨_,rfl,ae.mk (λh1=>?_) (λh1=>(iE a.value b.value).call ⟨_,rfl,ae.mk (λh2=>?_) (λh2=>ae.mk (λh3=>?_) (λh3=>ae.mk (λh4=>?_) (λh4=>?_)))⟩)⟩)⟩<;>simp only[jC,wk,cu]
 ·rw[if_neg (by simpa using h)]
 ·rw[if_pos (by simpa using h),if_neg (by simpa using h1)]
 ·rw[if_pos (by simpa using h),if_pos (by simpa using h1),if_neg (by simpa using h2)]
 ·rw[if_pos (by simpa using h),if_pos (by simpa using h1),if_pos (by simpa using h2),if_pos (by simpa using h3)]
 ·rw[if_pos (by simpa using h),if_pos (by simpa using h1),if_pos (by simpa using h2),if_neg (by simpa using h3),if_pos (by simpa using h4)]
 ·rw[if_pos (by simpa using h),if_pos (by simpa using h1),if_pos (by simpa using h2),if_neg (by simpa using h3),if_neg (by simpa using h4)]
namespace KS
abbrev El:=Sym
@[reducible] def pv(x:El):List PV:=Sym.pv x
@[reducible] def arg(x:El):PV:=.agg x.pv
def key(x:El):Sym:=x
abbrev ck:Sym->Sym->Int:=aJ
theorem hc:kQ ck:=aF
theorem zh(a b:El):Pure prog 489 [arg a,arg b] (pI (ck (key a) (key b))):=iE a b
abbrev At(b:Nat)(l:List El):bk:=bp 135 58 3 b (l.map pv)
theorem uC:Jh D pv arg key ck:=⟨λx Q h=>⟨_,_,_,h⟩,λ_=>rfl,λ_=>rfl,λ_=>rfl,λ_=>rfl,hc,zh,λv=>by kernel_rfl,rfl,by decide,by decide⟩
theorem eD{x:El}{a0:Option Addr}{u0:Mem}{K:Kq}(h:D.find a0 u0 K (arg x)):ab prog 72 [pA a0,arg x] u0 K:=VC [3] [(2,⟨[(6,.one (.raw (.int .i64))),(7,.one (.raw (.int .i64)))],[]⟩)] [] [] [] [] [] func72 h
theorem tz{x:El}{a0:Option Addr}{u0:Mem}{K:Kq}(h:D.place a0 u0 K (arg x) 72):ab prog 141 [pA a0,arg x] u0 K:=VC [3] [] [] [] [] [] [] func141 h
def gL:=uC.gL eD tz
theorem Pn{a0:Option Addr}{u0:Mem}{K:Kq}(h:D.len a0 u0 K):ab prog 86 [pA a0] u0 K:=VC [] [] [] [] [] [] [] func86 h
def FY:=Jh.FY (D:=D) (pr:=pv) Pn
theorem lM{a0:Option Addr}{u0:Mem}{K:Kq}(h:D.own a0 u0 K):ab prog 73 [pA a0] u0 K:=VC [] [] [] [] [] [] [] func73 h
theorem oz{x:El}{a0:Option Addr}{u0:Mem}{K:Kq}(h:D.put a0 u0 K (pv x) (arg x) 72 73):ab prog 31 [pA a0,arg x] u0 K:=VC [3] [(9,⟨[(7,.one (.raw (.int .i64)))],[]⟩)] [] [] [] [] [23,32,43,48,57] func31 h
def f_:=uC.f_ eD lM oz
theorem oA{fl:Fl}{l:Lq}{u0:Mem}{K:Kq}(h:D.new u0 K 31 l):ab prog 28 [.list 3 fl l] u0 K:=VC [5] [(3,⟨[(10,.one (.raw (.int .i64)))],[]⟩)] [] [] [] [] [] func28 h
def gX:=uC.gX f_ oA
theorem Hv{a0:Option Addr}{a1:Int}{a2:Fn}{SC SB:List PV}{u0:Mem}{K:Kq}(h:D.from_ a0 u0 K a1 a2 SC SB):ab prog 140 [pA a0,pI a1,.fn a2 SC SB] u0 K:=VC [] [(3,⟨[(7,.one (.raw (.int .i64)))],[]⟩)] [] [] [] [] [] func140 h
theorem Hx{a0:Fn}{Nm Nl c0:List PV}{u0:Mem}{K:Kq}(h:D.aaU u0 K 140 a0 Nm Nl c0):ab prog 139 [.fn a0 Nm Nl,.bl c0 0] u0 K:=VC [] [] [] [] [] [] [] func139 h
@[reducible] def RT(b:Nat):PV:=.fn (.func 139) [] [.bl [pP b 0] 0]
theorem IP(b:Nat):Pure prog 83 [pP b 0] (RT b):=ax.of (me.c rfl)
theorem rF(b:Nat)(l:List El)(hl:l.length<=4000000000000000000):jY prog (RT b) (l.map λx=>[arg x]) (At b l) (At b l):=uC.rF Hx Hv b l hl
end KS
namespace KE
abbrev El:=av
@[reducible] def pv(x:El):List PV:=av.pv x
@[reducible] def arg(x:El):PV:=.agg x.pv
abbrev key(x:El):NL:=av.key x
abbrev ck:NL->NL->Int:=fO
theorem hc:kQ ck:=cH
theorem zh(a b:El):Pure prog 494 [arg a,arg b] (pI (ck (key a) (key b))):=aaD a b
@[reducible] noncomputable def D:SD:=⟨prog,137,60,12,112,494,λQ=>∃xa xb xc xd xe xf xg xh xi xj xk xl,Q [pI xa,pS xb,pI xc,pI xd,pS xe,pI xf,pI xg,pS xh,pI xi,pB xj,pB xk,pI xl],.agg,[pI (0),pS ⟨#[]⟩,pI (0),pI (0),pS ⟨#[]⟩,pI (0),pI (0),pS ⟨#[]⟩,pI (0),pB false,pB false,pI (0)]⟩
abbrev At(b:Nat)(l:List El):bk:=bp 137 60 12 b (l.map pv)
theorem uC:Jh D pv arg key ck:=⟨λx Q h=>⟨_,_,_,_,_,_,_,_,_,_,_,_,h⟩,λ_=>rfl,λ_=>rfl,λ_=>rfl,λ_=>rfl,hc,zh,λv=>by kernel_rfl,rfl,by decide,by decide⟩
theorem eD{x:El}{a0:Option Addr}{u0:Mem}{K:Kq}(h:D.find a0 u0 K (arg x)):ab prog 74 [pA a0,arg x] u0 K:=VC [3] [(2,⟨[(6,.one (.raw (.int .i64))),(7,.one (.raw (.int .i64)))],[]⟩)] [] [] [] [] [] func74 h
theorem tz{x:El}{a0:Option Addr}{u0:Mem}{K:Kq}(h:D.place a0 u0 K (arg x) 74):ab prog 143 [pA a0,arg x] u0 K:=VC [3] [] [] [] [] [] [] func143 h
def gL:=uC.gL eD tz
theorem Pn{a0:Option Addr}{u0:Mem}{K:Kq}(h:D.len a0 u0 K):ab prog 85 [pA a0] u0 K:=VC [] [] [] [] [] [] [] func85 h
def FY:=Jh.FY (D:=D) (pr:=pv) Pn
theorem lM{a0:Option Addr}{u0:Mem}{K:Kq}(h:D.own a0 u0 K):ab prog 75 [pA a0] u0 K:=VC [] [] [] [] [] [] [] func75 h
theorem oz{x:El}{a0:Option Addr}{u0:Mem}{K:Kq}(h:D.put a0 u0 K (pv x) (arg x) 74 75):ab prog 32 [pA a0,arg x] u0 K:=VC [3] [(9,⟨[(7,.one (.raw (.int .i64)))],[]⟩)] [] [] [] [] [23,32,43,48,57] func32 h
def f_:=uC.f_ eD lM oz
theorem oA{fl:Fl}{l:Lq}{u0:Mem}{K:Kq}(h:D.new u0 K 32 l):ab prog 29 [.list 12 fl l] u0 K:=VC [5] [(3,⟨[(10,.one (.raw (.int .i64)))],[]⟩)] [] [] [] [] [] func29 h
def gX:=uC.gX f_ oA
theorem Hv{a0:Option Addr}{a1:Int}{a2:Fn}{SC SB:List PV}{u0:Mem}{K:Kq}(h:D.from_ a0 u0 K a1 a2 SC SB):ab prog 147 [pA a0,pI a1,.fn a2 SC SB] u0 K:=VC [] [(3,⟨[(7,.one (.raw (.int .i64)))],[]⟩)] [] [] [] [] [] func147 h
theorem Hx{a0:Fn}{Nm Nl c0:List PV}{u0:Mem}{K:Kq}(h:D.aaU u0 K 147 a0 Nm Nl c0):ab prog 146 [.fn a0 Nm Nl,.bl c0 0] u0 K:=VC [] [] [] [] [] [] [] func146 h
@[reducible] def RT(b:Nat):PV:=.fn (.func 146) [] [.bl [pP b 0] 0]
theorem IP(b:Nat):Pure prog 94 [pP b 0] (RT b):=ax.of (lu.c rfl)
theorem rF(b:Nat)(l:List El)(hl:l.length<=4000000000000000000):jY prog (RT b) (l.map λx=>[arg x]) (At b l) (At b l):=uC.rF Hx Hv b l hl
end KE
namespace KA
abbrev El:=Int
@[reducible] def pv(x:El):List PV:=[pI x]
@[reducible] def arg(x:El):PV:=pI x
def key(x:El):Int:=x
abbrev ck:Int->Int->Int:=fB
theorem hc:kQ ck:=eK
theorem zh(a b:El):Pure prog 505 [arg a,arg b] (pI (ck (key a) (key b))):=by
 refine ax.of (mP.c ?_)
 refine ae.mk (λh=>?_) (λh=>ae.mk (λh1=>?_) (λh1=>?_))<;>simp only[decide_eq_true_eq,decide_eq_false_iff_not]at* <;>simp only[fB,wk,cu,key]
 ·rw[if_pos h]
 ·rw[if_neg h,if_pos h1]
 ·rw[if_neg h,if_neg h1]
@[reducible] noncomputable def D:SD:=⟨prog,140,93,1,8,505,λQ=>∃x,Q [pI x],λr=>r.headD .au,[pI (0)]⟩
abbrev At(b:Nat)(l:List El):bk:=bp 140 93 1 b (l.map pv)
theorem uC:Jh D pv arg key ck:=⟨λx Q h=>⟨_,h⟩,λ_=>rfl,λ_=>rfl,λ_=>rfl,λ_=>rfl,hc,zh,λv=>by kernel_rfl,rfl,by decide,by decide⟩
theorem eD{x:El}{a0:Option Addr}{u0:Mem}{K:Kq}(h:D.find a0 u0 K (arg x)):ab prog 76 [pA a0,arg x] u0 K:=VC [] [(2,⟨[(6,.one (.raw (.int .i64))),(7,.one (.raw (.int .i64)))],[]⟩)] [] [] [] [] [] func76 h
theorem tz{x:El}{a0:Option Addr}{u0:Mem}{K:Kq}(h:D.place a0 u0 K (arg x) 76):ab prog 113 [pA a0,arg x] u0 K:=VC [] [] [] [] [] [] [] func113 h
def gL:=uC.gL eD tz
theorem lM{a0:Option Addr}{u0:Mem}{K:Kq}(h:D.own a0 u0 K):ab prog 77 [pA a0] u0 K:=VC [] [] [] [] [] [] [] func77 h
theorem oz{x:El}{a0:Option Addr}{u0:Mem}{K:Kq}(h:D.put a0 u0 K (pv x) (arg x) 76 77):ab prog 33 [pA a0,arg x] u0 K:=VC [] [(9,⟨[(7,.one (.raw (.int .i64)))],[]⟩)] [] [] [] [] [23,32,43,48,57] func33 h
def f_:=uC.f_ eD lM oz
theorem oA{fl:Fl}{l:Lq}{u0:Mem}{K:Kq}(h:D.new u0 K 33 l):ab prog 30 [.list 1 fl l] u0 K:=VC [] [(3,⟨[(10,.one (.raw (.int .i64)))],[]⟩)] [] [] [] [] [] func30 h
def gX:=uC.gX f_ oA
end KA
end Go.Proofs.YtbkejjmjopgpoaaGreat
namespace Go.az
open Go.RowKit
def mL(e:TypeId)(sz:Nat)(p:PV)(rows:Lq):bk:=λμ=>
 ∃b off c dead rest,p=.raw (.slice (some ⟨b,off,none⟩) rows.length c)/\dead.length=off/\(c-rows.length)*sz<=rest.length/\rows.length<=c/\Pt b e (dead++(rows.flatten++rest)) μ
section
variable {e:TypeId} {sz:Nat} {p:PV} {rows:Lq} {L:List bk} {μ:Mem}
theorem mL.open_(h:Ow (mL e sz p rows::L) μ):∃b off c dead rest,p=.raw (.slice (some ⟨b,off,none⟩) rows.length c)/\dead.length=off/\(c-rows.length)*sz<=rest.length/\rows.length<=c/\Ow (Pt b e (dead++(rows.flatten++rest))::L) μ:=by
 obtain⟨μ1,μ2,hs,rfl,⟨b,off,c,dead,rest,h1,h2,h3,h4,h5⟩,hL⟩:=h
 exact⟨b,off,c,dead,rest,h1,h2,h3,h4,μ1,μ2,hs,rfl,h5,hL⟩
theorem mL.new{b:Nat}{r:List PV}(h:Ow (Pt b e r::L) μ):Ow (mL e sz (.raw (.slice (some ⟨b,0,none⟩) 1 1)) [r]::L) μ:=
 h.imp λν hν=>⟨b,0,1,[],[],rfl,rfl,by simp,Nat.le_refl _,by simpa using hν⟩
theorem acR{dead r rest:List PV}{off n:Nat}(h1:dead.length=off)(h2:r.length=n):((dead++(r++rest)).drop off).take n=r:=by
 subst h1 h2
 rw[List.drop_left,List.take_left]
theorem mL.hd{a:Option Addr}{n c:Nat}{r:List PV}(h:Ow (mL e sz (.raw (.slice a n c)) (r::rows)::L) μ)(hr:r.length=sz):∃b off,a=some ⟨b,off,none⟩/\n=rows.length+1/\n<=c/\aN μ b off sz=some r:=by
 obtain⟨b,off,c',dead,rest,h1,h2,h3,h4,h5⟩:=mL.open_ h
 simp only[PV.raw.injEq,Value.slice.injEq,List.length_cons]at h1
 obtain⟨rfl,rfl,rfl⟩:=h1
 refine⟨b,off,rfl,rfl,by simpa using h4,?_⟩
 rw[h5.rd 0 rfl (o:=off) (n:=sz) (by rw[List.flatten_cons];simp only[List.length_append];omega),List.flatten_cons,List.append_assoc,acR h2 hr]
theorem mL.tl{a:Option Addr}{n c:Nat}{r:List PV}(h:Ow (mL e sz (.raw (.slice a n c)) (r::rows)::L) μ)(hr:r.length=sz):Ow (mL e sz (.raw (.slice (sX a 1 c sz) (n-1) (c-1))) rows::L) μ:=by
 obtain⟨b,off,c',dead,rest,h1,h2,h3,h4,h5⟩:=mL.open_ h
 simp only[PV.raw.injEq,Value.slice.injEq,List.length_cons]at h1
 obtain⟨rfl,rfl,rfl⟩:=h1
 simp only[List.length_cons]at h3 h4
 refine h5.imp λν hν=>?_
 by_cases e1:c=1
 ·subst e1
  have hrn:rows=[]:=List.eq_nil_of_length_eq_zero (by omega)
  subst hrn
  refine⟨b,off,0,dead,r++rest,?_,h2,by simp,by simp,?_⟩
  ·simp[sX]
  ·simpa using hν
 ·refine⟨b,off+sz,c-1,dead++r,rest,?_,by simp[h2,hr],?_,by omega,?_⟩
  ·simp[sX,e1]
  ·have:c-1-rows.length=c-(rows.length+1):=by omega
   rw[this];exact h3
  ·rw[List.flatten_cons]at hν
   simpa[List.append_assoc]using hν
theorem mL.app{p:PV}(h:Ow (mL e sz p rows::L) μ)(hr:∀r∈rows,r.length=sz):∃a c,p=.raw (.slice a rows.length c)/\
  ∀(r:List PV) (bytes:Nat) (K:Option Addr->Nat->Nat->Mem->Prop),r.length=sz->aE r=true->(rows.length+1)*bytes<=140737488355328->rows.length+1<4611686018427387904->
   (∀a' c' μ2,Ow (mL e sz (.raw (.slice a' (rows.length+1) c')) (rows++[r])::L) μ2->K a' (rows.length+1) c' μ2)->
   iw sz bytes e a rows.length c (.list sz .nr [r]) μ K:=by
 obtain⟨b,off,c,dead,rest,rfl,h2,h3,h4,h5⟩:=mL.open_ h
 have Yz:∀r:List PV,ow sz sz [r]=true:=λr=>by simp[ow,Nat.beq_refl]
 have iB:rows.flatten.length=rows.length*sz:=dw hr
 refine⟨_,c,rfl,λr bytes K hl gu hb nH hK=>?_⟩
 unfold iw Ab
 simp only[Yz,cond_true]
 have hmul:(c-rows.length)*sz+rows.length*sz=c*sz:=by rw[<- Nat.add_mul];congr 1;omega
 have eF:aN μ b off (rows.length*sz)=some rows.flatten:=by
  rw[h5.rd 0 rfl (o:=off) (n:=rows.length*sz) (by simp only[List.length_append];omega),acR h2 iB]
 refine⟨by simpa using hb,by simpa using nH,h4,.inr ⟨by simp,by simpa using gu,λhle=>⟨b,off,e,_,rfl,h5.get 0 rfl,by simp only[List.length_append];omega,?_⟩,λbB=>⟨_,.inr ⟨b,off,rfl,eF⟩,λb' c' hn jN=>?_⟩⟩⟩
 ·simp only[List.length_singleton]at hle |-
  have Qr:(rows.length+1)*sz<=c*sz:=Nat.mul_le_mul_right _ hle
  have eg:sz<=rest.length:=by rw[Nat.succ_mul]at Qr;omega
  refine hK _ c _ ((Ow.put h5).imp λν hν=>⟨b,off,c,dead,rest.drop sz,by simp,h2,?_,by simpa using hle,?_⟩)
  ·have e1:c-rows.length=(c-(rows.length+1))+1:=by omega
   rw[e1,Nat.succ_mul]at h3
   simp only[List.length_append,List.length_singleton,List.length_drop]
   omega
  ·have e1:ei (dead++(rows.flatten++rest)) (off+rows.length*sz) [r].flatten=dead++((rows++[r]).flatten++rest.drop sz):=by
    unfold ei
    have e2:dead++(rows.flatten++rest)=(dead++rows.flatten)++rest:=by rw[List.append_assoc]
    have e3:off+rows.length*sz=(dead++rows.flatten).length:=by rw[List.length_append,h2,iB]
    rw[List.flatten_cons,List.flatten_nil,List.append_nil,e2,e3,List.take_left,List.drop_length_add_append,hl,List.flatten_append]
    simp
   rw[e1]at hν
   exact hν
 ·simp only[List.length_singleton]at jN |-
  have h6:=(Ow.new e (rows.flatten++[r].flatten++List.replicate ((c'-(rows.length+1))*sz) .au) h5 hn)
  refine hK _ c' _ ((h6.tail λ_ h=>h.drop).imp λν hν=>⟨b',0,c',[],List.replicate ((c'-(rows.length+1))*sz) .au,by simp,rfl,by simp,by simpa using jN,?_⟩)
  have e2:([]:List PV)++((rows++[r]).flatten++List.replicate ((c'-(rows.length+1))*sz) .au)=rows.flatten++[r].flatten++List.replicate ((c'-(rows.length+1))*sz) .au:=by simp
  rw[e2]
  exact hν
end
inductive pe(gs:List Sym)(es:List av):Sym->Prop
 |goal {s:Sym} (h:s∈gs):pe gs es s
 |step {e:av} (he:e∈es) (h:pe gs es e.id) (hk:e.value.k=1):pe gs es e.value
theorem pe.rD{gs:List Sym}{es:List av}{S:Sym->Prop}(h0:∀s∈gs,S s)(h1:∀e∈es,S e.id->e.value.k=1->S e.value):∀{s:Sym},pe gs es s->S s:=λh=>by
 induction h with
 |goal h=>exact h0 _ h
 |step he _ hk ih=>exact h1 _ he ih hk
def a_.ay(v:a_):List Sym:=v.goals.map Goal.st
def ou:Sym:=⟨3,⟨#[111,112,101,114,97,116,111,114]⟩,0⟩
def fi(e:av):Bool:=bE e.attr ou&&e.goal&& !e.acc
def dB(l:List av)(k:NL):Prop:=∃e∈l,e.key=k
def dq(p:eC):av:=⟨p.id,p.attr,p.value,bE p.attr ou,false,0⟩
def lH(l:List eC)(k:NL):Prop:=(∃p∈l,(dq p).key=k/\(p.kind=1\/p.kind=3/\p.attr=ou))/\¬ ∃p∈l,(dq p).key=k/\p.kind=2/\p.attr≠ou
def a_.R1(v:a_):Prop:=(∀e∈v.elems,1<=e.tag)/\v.elems.Pairwise (λa b=>a.tag<b.tag)/\v.elems.Pairwise λa b=>a.key≠b.key
def a_.R2(v:a_):Prop:=v.goals≠[]/\v.ay.Nodup/\(∀g∈v.goals,g.st.k=1)/\∀e∈v.elems,pe v.ay v.elems e.id/\(e.goal=true↔e.id∈v.ay)
def a_.R3(v:a_):Prop:=(∀e∈v.elems,fi e=true->∃g∈v.goals,g.st=e.id/\g.op=e.value/\g.op.k≠0)/\∀g∈v.goals,g.op.k≠0->dB v.elems (g.st,ou,g.op,false)/\dB v.elems (g.st,ou,g.op,true)
def a_.gl(v:a_)(n:Int):Prop:=1<=n/\n<=((v.goals.length:Nat):Int)
def a_.R4(v:a_):Prop:=∀p∈v.aS,pe v.ay v.elems p.id/\v.gl p.level/\(p.o=true\/∃i∈v.insts,i.num=p.Gb)
def a_.R5(v:a_):Prop:=(∀k,lH v.aS k->pe v.ay v.elems k.1->dB v.elems k)/\∀e∈v.elems,e.acc=true->lH v.aS e.key
def a_.R6(v:a_):Prop:=v.insts.Pairwise (λa b=>a.num<b.num)/\∀i∈v.insts,v.gl i.level
def a_.R7(v:a_):Prop:=((v.cD.length:Nat):Int)=((v.goals.length:Nat):Int)-1/\∀l∈v.cD,l.Pairwise (λa b=>a<b)/\∀t∈l,∃e∈v.elems,e.tag=t
structure a_.Ok(v:a_):Prop where
 e:v.elems.length<=1000
 p:v.aS.length<=1000
 g:v.goals.length<=1000
 i:v.insts.length<=1000
 d:v.cD.length<=1000
 ds:∀l∈v.cD,l.length<=1000
open Classical in
noncomputable def a_.first(v:a_):Int:=if v.R1 then if v.R2 then if v.R3 then if v.R4 then if v.R5 then if v.R6 then if v.R7 then 0 else 7 else 6 else 5 else 4 else 3 else 2 else 1
theorem yd{T:Type}(f:T->Int){l:List T}(h:∀(i:Nat) (h1:i+1<l.length),f (l[i]'(by omega))<f l[i+1]):l.Pairwise λa b=>f a<f b:=by
 rw[List.pairwise_iff_getElem]
 intro i j hi hj Ah
 obtain⟨d,rfl⟩:∃d,j=i+1+d:=⟨j-(i+1),by omega⟩
 clear Ah
 induction d with
 |zero=>exact h i hj
 |succ d ih=>exact Int.lt_trans (ih (by omega)) (h (i+1+d) hj)
theorem It{b1 b2 b3 b4 b5 b6 b7:Bool}{n:Int}(h:n=if b1 then if b2 then if b3 then if b4 then if b5 then if b6 then if b7 then 0 else 7 else 6 else 5 else 4 else 3 else 2 else 1):
  (∀(k:Nat) (hk:k<[b1,b2,b3,b4,b5,b6,b7].length),(∀(j:Nat) (hj:j<k),[b1,b2,b3,b4,b5,b6,b7][j]=true)->[b1,b2,b3,b4,b5,b6,b7][k]=false->(k:Int)+1=n)/\((∀b∈[b1,b2,b3,b4,b5,b6,b7],b=true)->(0:Int)=n):=by
 subst h
 revert b1 b2 b3 b4 b5 b6 b7
 decide
open Classical in
theorem a_.yQ(v:a_):v.first=if decide v.R1 then if decide v.R2 then if decide v.R3 then if decide v.R4 then if decide v.R5 then if decide v.R6 then if decide v.R7 then 0 else 7 else 6 else 5 else 4 else 3 else 2 else 1:=by
 unfold a_.first
 simp only[decide_eq_true_eq]
theorem EJ{α:Type}[DecidableEq α]{l m:List α}(h:l.Nodup)(hs:∀x∈l,x∈m):l.length<=m.length:=by
 induction l generalizing m with
 |nil=>simp
 |cons a l ih=>
  rw[List.nodup_cons]at h
  have ha:=hs a (by simp)
  have:=ih (m:=m.erase a) h.2 λx hx=>(List.mem_erase_of_ne (by rintro rfl;exact h.1 hx)).2 (hs x (by simp[hx]))
  rw[List.length_erase_of_mem ha]at this
  have:0<m.length:=List.length_pos_of_mem ha
  simp only[List.length_cons];omega
theorem pe.from{gs:List Sym}{es:List av}{s:Sym}(h:pe gs es s):s∈gs++es.map av.value:=by
 cases h with
 |goal h=>exact List.mem_append_left _ h
 |step he _ _=>exact List.mem_append_right _ (List.mem_map.2 ⟨_,he,rfl⟩)
section
variable (gs:List Sym) (es:List av)
def QH(K:List Sym)(s:Sym):Prop:=∀e∈es,e.id=s->e.value.k=1->e.value∈K
structure eU(i:Nat)(K T:List Sym)(Q:Sym->Prop):Prop where
 Tt:∀s∈K,pe gs es s
 gl:∀g∈gs,g∈K
 nd:K.Nodup
 op:∀s∈K,QH es K s\/s∈T\/(s∈gs.drop i/\s∉gs.take i)\/Q s
 td:∀s∈T,s∈K
end
section
variable {gs:List Sym} {es:List av} {i:Nat} {K T:List Sym} {Q:Sym->Prop}
theorem QH.mono{K':List Sym}(h:∀s∈K,s∈K'){s:Sym}(hx:QH es K s):QH es K' s:=λe he h1 h2=>h _ (hx e he h1 h2)
theorem eU.len(h:eU gs es i K T Q):K.length<=gs.length+es.length:=by
 classical
 have:=EJ h.nd λs hs=>(h.Tt s hs).from
 simpa using this
theorem eU.congr{K':List Sym}(h:eU gs es i K T Q)(hm:∀t,t∈K'↔t∈K)(hn:K'.Nodup):eU gs es i K' T Q:=
 ⟨λs hs=>h.Tt s ((hm s).1 hs),λg hg=>(hm g).2 (h.gl g hg),hn,λs hs=>(h.op s ((hm s).1 hs)).imp (λhx=>hx.mono λt ht=>(hm t).2 ht) id,λs hs=>(hm s).2 (h.td s hs)⟩
theorem eU.add(h:eU gs es i K T Q){e:av}(he:e∈es)(hi:e.id∈K)(hk:e.value.k=1)(hn:e.value∉K):eU gs es i (K++[e.value]) (T++[e.value]) Q:=by
 have hs:∀s∈K,s∈K++[e.value]:=λs hs=>List.mem_append_left _ hs
 refine⟨λs hs=>?_,λg hg=>hs _ (h.gl g hg),?_,λs Af=>?_,λs Af=>?_⟩
 ·rcases List.mem_append.1 hs with hs|hs
  ·exact h.Tt s hs
  ·simp only[List.mem_singleton]at hs
   subst hs;exact .step he (h.Tt _ hi) hk
 ·rw[List.nodup_append]
  exact⟨h.nd,by simp,λa ha b hb=>by simp only[List.mem_singleton]at hb;subst hb;rintro rfl;exact hn ha⟩
 ·rcases List.mem_append.1 Af with Af|Af
  ·rcases h.op s Af with h1|h1|h1|h1
   ·exact .inl (h1.mono hs)
   ·exact .inr (.inl (List.mem_append_left _ h1))
   ·exact .inr (.inr (.inl h1))
   ·exact .inr (.inr (.inr h1))
  ·exact .inr (.inl (List.mem_append_right _ Af))
 ·rcases List.mem_append.1 Af with Af|Af
  ·exact hs _ (h.td s Af)
  ·exact List.mem_append_right _ Af
theorem eU.done(h:eU gs es i K T Q)(hq:∀s,Q s->QH es K s):eU gs es i K T λ_=>False:=
 ⟨h.Tt,h.gl,h.nd,λs hs=>by
  rcases h.op s hs with h1|h1|h1|h1
  ·exact .inl h1
  ·exact .inr (.inl h1)
  ·exact .inr (.inr (.inl h1))
  ·exact .inl (hq s h1),h.td⟩
theorem eU.pop{s:Sym}(h:eU gs es i K (s::T) λ_=>False):eU gs es i K T λt=>t=s:=
 ⟨h.Tt,h.gl,h.nd,λt ht=>by
  rcases h.op t ht with h1|h1|h1|h1
  ·exact .inl h1
  ·rcases List.mem_cons.1 h1 with rfl|h1
   ·exact .inr (.inr (.inr rfl))
   ·exact .inr (.inl h1)
  ·exact .inr (.inr (.inl h1))
  ·exact h1.elim,λt ht=>h.td t (List.mem_cons_of_mem _ ht)⟩
theorem eU.goal(h:eU gs es i K [] λ_=>False)(hi:i<gs.length):eU gs es (i+1) K [gs[i]] λ_=>False:=by
 have ht:gs.take (i+1)=gs.take i++[gs[i]]:=by rw[List.take_add_one,List.getElem?_eq_getElem hi];rfl
 refine⟨h.Tt,h.gl,h.nd,λt hT=>?_,λt hT=>?_⟩
 ·rcases h.op t hT with h1|h1|h1|h1
  ·exact .inl h1
  ·cases h1
  ·by_cases e:t=gs[i]
   ·exact .inr (.inl (by simp[e]))
   ·refine .inr (.inr (.inl ⟨?_,?_⟩))
    ·have:=h1.1
     rw[List.drop_eq_getElem_cons hi,List.mem_cons]at this
     exact this.resolve_left e
    ·rw[ht,List.mem_append]
     rintro(h2|h2)
     ·exact h1.2 h2
     ·simp only[List.mem_singleton]at h2;exact e h2
  ·exact h1.elim
 ·simp only[List.mem_singleton]at hT
  subst hT;exact h.gl _ (List.getElem_mem hi)
theorem eU.skip(h:eU gs es i K [] λ_=>False)(hi:i<gs.length)(hm:gs[i]∈gs.take i):eU gs es (i+1) K [] λ_=>False:=by
 have h2:=h.goal hi
 refine⟨h.Tt,h.gl,h.nd,λt hT=>?_,by simp⟩
 rcases h2.op t hT with h1|h1|h1|h1
 ·exact .inl h1
 ·simp only[List.mem_singleton]at h1
  subst h1
  rcases h.op _ hT with h3|h3|h3|h3
  ·exact .inl h3
  ·cases h3
  ·exact absurd hm h3.2
  ·exact h3.elim
 ·exact .inr (.inr (.inl h1))
 ·exact h1.elim
theorem eU.all(h:eU gs es gs.length K [] λ_=>False)(s:Sym):s∈K↔pe gs es s:=by
 refine⟨h.Tt s,pe.rD h.gl λe he h1 h2=>?_⟩
 rcases h.op _ h1 with h3|h3|h3|h3
 ·exact h3 e he rfl h2
 ·cases h3
 ·rw[List.drop_length]at h3;cases h3.1
 ·exact h3.elim
theorem eU.start(hr:∀s∈K,s∈gs)(hg:∀g∈gs,g∈K)(hn:K.Nodup):eU gs es 0 K [] λ_=>False:=
 ⟨λs hs=>.goal (hr s hs),hg,hn,λs hs=>.inr (.inr (.inl ⟨by simpa using hr s hs,by simp⟩)),by simp⟩
end
end Go.az
namespace Go.Proofs.YtbkejjmjopgpoaaGreat
open Go.Proofs.Tryz Go.az Go.RowKit
open Classical
def TF(a b:av):Bool:=bE a.id b.id&&(bE a.attr b.attr&&(bE a.value b.value&&(a.acc == b.acc)))
theorem ov{a b:av}:TF a b=true↔a.key=b.key:=by
 unfold TF av.key
 constructor
 ·intro h
  have h1:=(Bool.and_eq_true _ _).mp h
  have h2:=(Bool.and_eq_true _ _).mp h1.2
  have h3:=(Bool.and_eq_true _ _).mp h2.2
  rw[aQ.1 h1.1,aQ.1 h2.1,aQ.1 h3.1,beq_iff_eq.1 h3.2]
 ·intro h
  simp only[Prod.mk.injEq]at h
  obtain⟨h1,h2,h3,h4⟩:=h
  exact(Bool.and_eq_true _ _).mpr ⟨aQ.2 h1,(Bool.and_eq_true _ _).mpr ⟨aQ.2 h2,(Bool.and_eq_true _ _).mpr ⟨aQ.2 h3,beq_iff_eq.2 h4⟩⟩⟩
theorem IG(a b:av):Pure prog 95 [.agg a.pv,.agg b.pv] (pB (TF a b)):=by
 refine ax.of (uk.c ?_)
 refine ae.mk (λh=>ae.mk (λh1=>ae.mk (λh2=>?_) (λh2=>?_)) (λh1=>?_)) (λh=>?_)<;>simp only[wk,cu,TF,bE]
 ·rw[h,h1,h2];rfl
 ·rw[h,h1,h2];rfl
 ·rw[h,h1];rfl
 ·rw[h];rfl
theorem ib{l:List av}{k:Nat}(hk:k<l.length):(l.map av.pv)[Int.toNat (k:Int)]?=some l[k].pv:=aI hk
theorem tW(f:Fl)(l:List av)(hl:l.length<=1000000)(e:av):ax prog 102 [.list 12 f (l.map av.pv),.agg e.pv] λp=>∃x:av,p=.aC [.agg x.pv,pB (decide (dB l e.key))]:=by
 refine ax.of (su.c ?_)
 rw[List.length_map]
 refine aj.each (n:=l.length) (by omega) (λk u=>∀x∈l.take k,x.key≠e.key) (by simp) ?_ ?_
 ·rintro k u next hk hI ar
  refine ae.t (by simpa using hk) ⟨by omega,_,ib hk,_,_,_,_,_,_,_,_,_,_,_,_,rfl,?_⟩
  refine(IG l[k] e).call ⟨_,rfl,ae.mk (λh=>?_) (λh=>ar _ ?_)⟩
  ·refine⟨by omega,_,ib hk,_,_,_,_,_,_,_,_,_,_,_,_,rfl,l[k],?_⟩
   rw[decide_eq_true ⟨l[k],List.getElem_mem hk,ov.1 h⟩];rfl
  ·intro x hx
   rw[List.take_add_one,List.getElem?_eq_getElem hk,List.mem_append]at hx
   rcases hx with hx|hx
   ·exact hI x hx
   ·simp only[Option.toList_some,List.mem_singleton]at hx
    subst hx
    intro e2
    rw[ov.2 e2]at h;cases h
 ·rintro u next hI
  rw[List.take_length]at hI
  refine ae.f (by simp) ⟨⟨⟨0,⟨#[]⟩,0⟩,⟨0,⟨#[]⟩,0⟩,⟨0,⟨#[]⟩,0⟩,false,false,0⟩,?_⟩
  rw[decide_eq_false λ⟨x,hx,e2⟩=>hI x hx e2];rfl
theorem jm{l:List Sym}{k:Nat}(hk:k<l.length):(l.map Sym.pv)[Int.toNat (k:Int)]?=some l[k].pv:=aI hk
theorem fE{T:Type}{l:List T}{k:Nat}(hk:k<l.length):l.take (k+1)=l.take k++[l[k]]:=by rw[List.take_add_one,List.getElem?_eq_getElem hk];rfl
theorem Ry(f:Fl)(l:List Sym)(hl:l.length<=1000000)(s:Sym):Pure prog 97 [.list 3 f (l.map Sym.pv),.agg s.pv] (pB (decide (s∈l))):=by
 refine ax.of (ur.c ?_)
 rw[List.length_map]
 refine aj.each (n:=l.length) (by omega) (λk u=>s∉l.take k) (by simp) ?_ ?_
 ·rintro k u next hk hI ar
  refine ae.t (by simpa using hk) ⟨by omega,_,jm hk,_,_,_,rfl,ae.mk (λh=>?_) (λh=>ar _ ?_)⟩
  ·have e:l[k]=s:=aQ.1 h
   rw[decide_eq_true (by rw[<- e];exact List.getElem_mem hk)];rfl
  ·rw[fE hk,List.mem_append,List.mem_singleton]
   rintro(h1|h1)
   ·exact hI h1
   ·have:bE l[k] s=true:=aQ.2 h1.symm
    exact Bool.noConfusion (this.symm.trans h)
 ·rintro u next hI
  rw[List.take_length]at hI
  refine ae.f (by simp) ?_
  rw[decide_eq_false hI];rfl
@[reducible] def Pc(x:Sym×Int):List PV:=[pI x.1.k,pS x.1.t,pI x.1.n,pI x.2]
def EG(l:List (Sym×Int))(s:Sym):Int:=match l.find? λx=>bE x.1 s with|some x=>x.2|none=>0
theorem FX(f:Fl)(l:List (Sym×Int))(hl:l.length<=1000000)(s:Sym):Pure prog 99 [.list 4 f (l.map Pc),.agg s.pv] (pI (EG l s)):=by
 refine ax.of (vF.c ?_)
 rw[List.length_map]
 refine aj.each (n:=l.length) (by omega) (λk u=>(l.take k).find? (λx=>bE x.1 s)=none) (by simp) ?_ ?_
 ·rintro k u next hk hI ar
  have row:(l.map Pc)[Int.toNat (k:Int)]?=some (Pc l[k]):=aI hk
  refine ae.t (by simpa using hk) ⟨by omega,_,row,_,_,_,rfl,ae.mk (λh=>?_) (λh=>ar _ ?_)⟩
  ·refine⟨by omega,_,row,_,rfl,?_⟩
   have h':bE l[k].1 s=true:=h
   have e:l.find? (λx=>bE x.1 s)=some l[k]:=by
    conv=>lhs;rw[<- List.take_append_drop k l,List.drop_eq_getElem_cons hk]
    rw[List.find?_append,hI]
    simp only[Option.none_or,List.find?_cons,h']
   unfold EG
   rw[e];rfl
  ·have h':bE l[k].1 s=false:=h
   rw[fE hk,List.find?_append,hI]
   simp only[Option.none_or,List.find?_cons,h',List.find?_nil]
 ·rintro u next hI
  rw[List.take_length]at hI
  refine ae.f (by simp) ?_
  unfold EG
  rw[hI];rfl
theorem Cv{l:List (Sym×Int)}(h:∀x∈l,1<=x.2)(s:Sym):0<=EG l s/\(EG l s≠0↔s∈l.map λx=>x.1):=by
 unfold EG
 cases hf:l.find? (λx=>bE x.1 s)with
 |none=>
  have:=List.find?_eq_none.1 hf
  simp only[ne_eq,not_true_eq_false,false_iff,Int.le_refl,true_and]
  intro hm
  obtain⟨x,hx,rfl⟩:=List.mem_map.1 hm
  exact this x hx (GS _)
 |some x=>
  have h1:=List.mem_of_find?_eq_some hf
  have h2:=List.find?_some hf
  have h3:=h x h1
  simp only
  refine⟨by omega,?_⟩
  constructor
  ·intro _;exact List.mem_map.2 ⟨x,h1,aQ.1 h2⟩
  ·intro _;omega
theorem Ga(f:Fl)(gs:List Sym)(hl:gs.length<=1000000){i:Nat}(hi:i<gs.length):ax prog 148 [.list 3 f (gs.map Sym.pv),.agg gs[i].pv] λp=>∃n:Int,p=pI n/\(n=((i:Nat):Int)↔gs[i]∉gs.take i):=by
 refine ax.of (qH.c ?_)
 rw[List.length_map]
 refine aj.each (n:=gs.length) (by omega) (λk u=>gs[i]∉gs.take k) (by simp) ?_ ?_
 ·rintro k u next hk hI ar
  refine ae.t (by simpa using hk) ⟨by omega,_,jm hk,_,_,_,rfl,ae.mk (λh=>⟨_,rfl,?_⟩) (λh=>ar _ ?_)⟩
  ·have e:gs[k]=gs[i]:=aQ.1 h
   constructor
   ·intro h1
    have:k=i:=by omega
    subst this;exact hI
   ·intro h1
    rcases Nat.lt_trichotomy k i with h2|h2|h2
    ·refine absurd ?_ h1
     rw[<- e]
     refine List.mem_iff_getElem?.2 ⟨k,?_⟩
     rw[List.getElem?_take_of_lt h2];exact List.getElem?_eq_getElem hk
    ·rw[h2]
    ·refine absurd ?_ hI
     refine List.mem_iff_getElem?.2 ⟨i,?_⟩
     rw[List.getElem?_take_of_lt h2];exact List.getElem?_eq_getElem hi
  ·rw[fE hk,List.mem_append,List.mem_singleton]
   rintro(h1|h1)
   ·exact hI h1
   ·have:bE gs[k] gs[i]=true:=aQ.2 h1.symm
    exact Bool.noConfusion (this.symm.trans h)
 ·rintro u next hI
  rw[List.take_length]at hI
  exact absurd (List.getElem_mem hi) hI
structure L10(gs:List Sym)(es:List av)(ls:List (Sym×Int)):Prop where
 iff:∀s,s∈ls.map (λx=>x.1)↔pe gs es s
 pos:∀x∈ls,1<=x.2
 le:ls.length<=gs.length+es.length
theorem L10.of{gs:List Sym}{es:List av}{ls:List (Sym×Int)}(h:L10 gs es ls)(s:Sym):0<=EG ls s/\(EG ls s≠0↔pe gs es s):=by
 obtain⟨h1,h2⟩:=Cv h.pos s
 exact⟨h1,h2.trans (h.iff s)⟩
theorem vq(f g:Fl)(gs:List Sym)(es:List av)(hg:gs.length<=100000)(he:es.length<=100000):ax prog 98 [.list 3 f (gs.map Sym.pv),.list 12 g (es.map av.pv)] λp=>∃ls,p=.list 4 .sh (ls.map Pc)/\L10 gs es ls:=by
 refine ax.of (pn.c ?_)
 rw[List.length_map,List.length_map]
 have kn:∀(ls:List (Sym×Int)) (v:Sym) (n:Int),(ls++[(v,n)]).map (λx=>x.1)=ls.map (λx=>x.1)++[v]:=λls v n=>by rw[List.map_append];rfl
 refine aj.ed (n:=gs.length) (by omega) (λi s u=>∃ls:List (Sym×Int),s.2=ls.map Pc/\(ls.map λx=>x.1).Nodup/\(∀s,s∈ls.map (λx=>x.1)↔s∈gs.take i)/\(∀x∈ls,1<=x.2)/\ls.length<=i/\Ow [m_ s.1 ls.length 4] u) ⟨[],rfl,by simp,by simp,by simp,by simp,Ow.nil (L:=[]) (μ:=M0) trivial (.inl rfl)⟩ ?_ ?_
 ·rintro i ⟨fr,_⟩ u next hi ⟨ls,rfl,My,dv,qu,hlen,hO⟩ ar
  dsimp only
  refine ae.t (by simpa using hi) ⟨by omega,_,jm hi,_,_,_,rfl,(FX fr ls (by omega) gs[i]).call ⟨_,rfl,?_⟩⟩
  obtain⟨h0,h1⟩:=Cv qu gs[i]
  refine ae.mk (λh=>?_) (λh=>?_)
  ·have hz:EG ls gs[i]=0:=by simpa using h
   have hn:gs[i]∉ls.map λx=>x.1:=λhm=>absurd hz (h1.2 hm)
   refine⟨by omega,_,jm hi,_,_,_,rfl,?_⟩
   have ew:IntKind.wrap .i64 ((i:Int)+1)=(i:Int)+1:=aB (by omega) (by omega)
   rw[ew]at ar |-
   have uE:(ls.map Pc).length=ls.length:=List.length_map _
   refine hO.app uE (by rw[uE]at *;simp;omega) (by simp;omega) λiD u' h2=>ar _ _ ⟨ls++[(gs[i],(i:Int)+1)],by rw[List.map_append];rfl,?_,?_,?_,by simp;omega,by simpa using h2⟩
   ·rw[kn,List.nodup_append]
    exact⟨My,by simp,λa ha b hb=>by simp only[List.mem_singleton]at hb;subst hb;rintro rfl;exact hn ha⟩
   ·intro s
    rw[kn,fE hi,List.mem_append,List.mem_append,dv]
   ·intro x hx
    rcases List.mem_append.1 hx with hx|hx
    ·exact qu x hx
    ·simp only[List.mem_singleton]at hx;subst hx;show 1<=(i:Int)+1;omega
  ·have hz:EG ls gs[i]≠0:=by simpa using h
   have hm:=h1.1 hz
   refine ar _ _ ⟨ls,rfl,My,λs=>?_,qu,by omega,hO⟩
   rw[fE hi,List.mem_append,List.mem_singleton,dv]
   constructor
   ·exact .inl
   ·rintro(h3|h3)
    ·exact h3
    ·subst h3;exact(dv _).1 hm
 ·rintro⟨fr,_⟩ u next ⟨ls,rfl,My,dv,qu,hlen,hO⟩
  rw[List.take_length]at dv
  refine ae.f (by simp) ?_
  dsimp only
  have hB0:eU gs es 0 (ls.map λx=>x.1) [] λ_=>False:=eU.start (λs hs=>(dv s).1 hs) (λg hg=>(dv g).2 hg) My
  refine aj.ed (n:=gs.length) (by omega) (λi s u=>∃ls:List (Sym×Int),s.2=ls.map Pc/\eU gs es i (ls.map λx=>x.1) [] (λ_=>False)/\(∀x∈ls,1<=x.2)/\Ow [m_ s.1 ls.length 4] u) ⟨ls,rfl,hB0,qu,hO⟩ ?_ ?_
  ·clear hB0 hO hlen qu dv My
   rintro i ⟨fr,_⟩ u next hi ⟨ls,rfl,hB,qu,hO⟩ ar
   dsimp only
   refine ae.t (by simpa using hi) ⟨by omega,_,jm hi,_,_,_,rfl,λb45 alp=>?_⟩
   have O1:=mL.new (e:=58) (sz:=3) (hO.new 58 gs[i].pv alp)
   by_cases hfst:gs[i]∉gs.take i
   ·refine⟨λm s u=>∃(ls:List (Sym×Int)) (T:List Sym),s.1.2=ls.map Pc/\m=(gs.length+es.length-ls.length)+T.length/\T.length<=ls.length/\eU gs es (i+1) (ls.map λx=>x.1) T (λ_=>False)/\(∀x∈ls,1<=x.2)/\Ow [mL 58 3 (pV s.2.1 s.2.2.1 s.2.2.2) (T.map Sym.pv),m_ s.1.1 ls.length 4] u,⟨_,ls,[gs[i]],rfl,rfl,by have:=List.length_pos_of_mem (hB.gl _ (List.getElem_mem hi));rw[List.length_map]at this;exact this,hB.goal hi,qu,O1⟩,?_⟩
    clear O1 hO qu hB
    rintro m ⟨⟨fr,_⟩,a,n,c⟩ u2 ⟨ls,T,rfl,rfl,hTK,hB,qu,h2⟩
    dsimp only at h2 |-
    have hKl:ls.length<=gs.length+es.length:=by have:=hB.len;simpa using this
    cases T with
    |nil=>
     obtain⟨_,_,_,_,_,e,_⟩:=mL.open_ h2
     simp only[PV.raw.injEq,Value.slice.injEq,List.length_map,List.length_nil]at e
     obtain⟨rfl,rfl,rfl⟩:=e
     exact ae.f (by simp) (ar _ _ ⟨ls,rfl,hB,qu,h2.drop⟩)
    |cons s T=>
     obtain⟨qb,qo,rfl,rfl,hnc,eF⟩:=mL.hd (r:=s.pv) (rows:=T.map Sym.pv) h2 rfl
     refine ae.t (by simp) ⟨by omega,_,jm hi,_,_,_,rfl,(Ga f gs (by omega) hi).call ?_⟩
     rintro _ ⟨nn,rfl,hnn⟩
     refine⟨_,rfl,ae.t (by simpa using hnn.2 hfst) ⟨by omega,by omega,_,_,_,by simpa using eF,λx e=>(by cases e;rfl),by omega,by omega,by omega,by omega,?_⟩⟩
     have h3:=mL.tl h2 rfl
     refine Go.az.aj.WN (n:=es.length) (by omega) (λk x y u=>∃(yr:List (Sym×Int)) (T2:List Sym),x.2=yr.map Pc/\T2.length+ls.length=T.length+yr.length/\eU gs es (i+1) (yr.map λx=>x.1) T2 (λt=>t=s)/\s∈yr.map (λx=>x.1)/\(∀e∈es.take k,e.id=s->e.value.k=1->e.value∈yr.map λx=>x.1)/\(∀x∈yr,1<=x.2)/\Ow [mL 58 3 (pV y.1 y.2.1 y.2.2) (T2.map Sym.pv),m_ x.1 yr.length 4] u) ⟨ls,T,rfl,rfl,hB.pop,hB.td s (by simp),by simp,qu,h3⟩ ?_ ?_
     ·rintro k ⟨fr3,_⟩ ⟨a3,n3,c3⟩ u3 v_ hk ⟨yr,T2,rfl,hT2,WH,HZ,gp,yI,h4⟩ iU
      dsimp only at h4 |-
      have alz:yr.length<=gs.length+es.length:=by have:=WH.len;simpa using this
      have ek:∀{M:List Sym},(∀e∈es.take k,e.id=s->e.value.k=1->e.value∈M)->(es[k].id=s->es[k].value.k=1->es[k].value∈M)->∀e∈es.take (k+1),e.id=s->e.value.k=1->e.value∈M:=λ{M} h1 h2 e he=>by
       rw[fE hk,List.mem_append,List.mem_singleton]at he
       rcases he with he|rfl
       ·exact h1 e he
       ·exact h2
      refine ae.t (by simpa using hk) ⟨by omega,_,ib hk,_,_,_,rfl,by omega,_,ib hk,_,_,_,rfl,ae.mk (λh=>?_) (λh=>?_)⟩
      ·have xv:es[k].id=s:=aQ.1 h
       refine ae.mk (λbP=>?_) (λbP=>?_)
       ·have Ig:es[k].value.k=1:=by simpa using bP
        refine(FX fr3 yr (by omega) es[k].value).call ⟨_,rfl,?_⟩
        obtain⟨h0,h1⟩:=Cv yI es[k].value
        refine ae.mk (λhz=>?_) (λhz=>?_)
        ·have nE:EG yr es[k].value=0:=by simpa using hz
         have hn:es[k].value∉yr.map λx=>x.1:=λhm=>absurd nE (h1.2 hm)
         rw[aB (by omega) (by omega)]
         have uE:(yr.map Pc).length=yr.length:=List.length_map _
         refine h4.swap.app uE (by simp;omega) (by simp;omega) λiD u5 h5=>?_
         obtain⟨aq,cq,eq,jQ⟩:=mL.app h5.swap (nY (pv:=Sym.pv) (sz:=3) (λ_=>rfl) T2)
         simp only[PV.raw.injEq,Value.slice.injEq]at eq
         obtain⟨rfl,rfl,rfl⟩:=eq
         rw[List.length_cons]at hTK
         refine jQ es[k].value.pv 32 _ rfl rfl (by rw[List.length_map];omega) (by rw[List.length_map];omega) λa4 c4 u6 h6=>iU _ _ _ ⟨yr++[(es[k].value,(i:Int)+1)],T2++[es[k].value],by rw[List.map_append];rfl,by simp;omega,?_,?_,?_,?_,?_⟩
         ·rw[kn]
          exact WH.add (List.getElem_mem hk) (by rw[xv];exact HZ) Ig hn
         ·rw[kn];exact List.mem_append_left _ HZ
         ·rw[kn]
          exact ek (λe he h7 h8=>List.mem_append_left _ (gp e he h7 h8)) λ_ _=>List.mem_append_right _ (by simp)
         ·intro x hx
          rcases List.mem_append.1 hx with hx|hx
          ·exact yI x hx
          ·simp only[List.mem_singleton]at hx;subst hx;show 1<=(i:Int)+1;omega
         ·rw[List.map_append]
          simpa using h6
        ·have nE:EG yr es[k].value≠0:=by simpa using hz
         exact iU _ _ _ ⟨yr,T2,rfl,hT2,WH,HZ,ek gp λ_ _=>h1.1 nE,yI,h4⟩
       ·have Ig:es[k].value.k≠1:=by simpa using bP
        exact iU _ _ _ ⟨yr,T2,rfl,hT2,WH,HZ,ek gp λ_ h7=>absurd h7 Ig,yI,h4⟩
      ·have xv:es[k].id≠s:=λe=>by
        have:bE es[k].id s=true:=aQ.2 e
        exact Bool.noConfusion (this.symm.trans h)
       exact iU _ _ _ ⟨yr,T2,rfl,hT2,WH,HZ,ek gp λh7=>absurd h7 xv,yI,h4⟩
     ·rintro⟨fr3,_⟩ ⟨a3,n3,c3⟩ u3 v_ ⟨yr,T2,rfl,hT2,WH,HZ,gp,yI,h4⟩
      rw[List.take_length]at gp
      have alz:yr.length<=gs.length+es.length:=by have:=WH.len;simpa using this
      refine ae.f (by simp) ⟨(gs.length+es.length-yr.length)+T2.length,by simp only[List.length_cons];omega,yr,T2,rfl,rfl,by rw[List.length_cons]at hTK;omega,WH.done λt ht=>?_,yI,h4⟩
      subst ht
      exact λe he h7 h8=>gp e he h7 h8
   ·
    have dv:gs[i]∈gs.take i:=Classical.byContradiction hfst
    refine⟨λm s u=>s=((fr,ls.map Pc),some ⟨b45,0,none⟩,1,1)/\Ow [mL 58 3 (pV (some ⟨b45,0,none⟩) 1 1) ([gs[i]].map Sym.pv),m_ fr ls.length 4] u,⟨0,rfl,O1⟩,?_⟩
    rintro m _ u2 ⟨rfl,h2⟩
    refine ae.t (by simp) ⟨by omega,_,jm hi,_,_,_,rfl,(Ga f gs (by omega) hi).call ?_⟩
    rintro _ ⟨nn,rfl,hnn⟩
    exact⟨_,rfl,ae.f (by simpa using λe=>(hnn.1 e) dv) (ar _ _ ⟨ls,rfl,hB.skip hi dv,qu,h2.drop⟩)⟩
  ·rintro⟨fr,_⟩ u2 next ⟨ls,rfl,hB,qu,hO⟩
   refine ae.f (by simp) ⟨ls,rfl,λs=>hB.all s,qu,?_⟩
   have:=hB.len;simpa using this
open Classical
theorem Ky{l:List Goal}{k:Nat}(hk:k<l.length):(l.map Goal.pv)[Int.toNat (k:Int)]?=some l[k].pv:=aI hk
theorem AY{l:List eC}{k:Nat}(hk:k<l.length):(l.map eC.pv)[Int.toNat (k:Int)]?=some l[k].pv:=aI hk
theorem Ko{l:List ma}{k:Nat}(hk:k<l.length):(l.map ma.pv)[Int.toNat (k:Int)]?=some l[k].pv:=aI hk
theorem aeH{l:List (List Int)}{k:Nat}(hk:k<l.length):(l.map Da)[Int.toNat (k:Int)]?=some (Da l[k]):=aI hk
theorem Wh{l:List Int}{k:Nat}(hk:k<l.length):(l.map HW)[Int.toNat (k:Int)]?=some [pI l[k]]:=aI hk
theorem Cp{T:Type}{pv:T->List PV}{l:List T}{k:Nat}(hk:k<l.length)(h0:0<k)(hl:l.length<=1000000:=by omega):(l.map pv)[Int.toNat (IntKind.wrap .i64 ((k:Int)-1))]?=some (pv l[k-1]):=by
 rw[aB (by omega) (by omega),show Int.toNat ((k:Int)-1)=k-1 from by omega,List.getElem?_map,List.getElem?_eq_getElem (by omega)];rfl
theorem vp(v:a_)(hv:v.Ok):Pure prog 96 [.agg v.pv] (.list 3 .sh (v.ay.map Sym.pv)):=by
 have hg:=hv.g
 refine ax.of (ph.c ?_)
 rw[List.length_map]
 refine aj.ed (n:=v.goals.length) (by omega) (λi s u=>s.2=(v.ay.take i).map Sym.pv/\Ow [m_ s.1 ((v.ay.take i).map Sym.pv).length 3] u) ⟨by simp,Ow.nil (L:=[]) (μ:=M0) trivial (.inl rfl)⟩ ?_ ?_
 ·rintro i ⟨fr,_⟩ u next hi ⟨rfl,hO⟩ ar
  dsimp only
  have wQ:i<v.ay.length:=by unfold a_.ay;simpa using hi
  have hsi:v.ay[i]=v.goals[i].st:=List.getElem_map (l:=v.goals) Goal.st
  have hl:((v.ay.take i).map Sym.pv).length=i:=by rw[List.length_map,List.length_take];omega
  refine ae.t (by simpa using hi) ⟨by omega,_,Ky hi,_,_,_,rfl,hO.app rfl (by rw[hl];simp;omega) (by rw[hl];simp;omega) λiD u' h2=>ar _ _ ⟨?_,?_⟩⟩
  ·rw[fE wQ,List.map_append,List.map_singleton,hsi]
  ·rw[fE wQ,List.map_append,List.length_append]
   simpa using h2
 ·rintro⟨fr,_⟩ u next ⟨rfl,hO⟩
  refine ae.f (by simp) ?_
  have:v.ay.length=v.goals.length:=by unfold a_.ay;simp
  rw[<- this,List.take_length];rfl
theorem aan(v:a_)(hv:v.Ok):Pure prog 43 [.agg v.pv] (pB (decide v.R1)):=by
 have he:=hv.e
 refine ax.of (ui.c ?_)
 rw[List.length_map]
 refine aj.each (n:=v.elems.length) (by omega) (λk u=>(∀(i:Nat) (h:i<v.elems.length),i<k->1<=v.elems[i].tag/\(∀h0:0<i,v.elems[i-1].tag<v.elems[i].tag)/\∀(j:Nat) (hj:j<i),v.elems[j].key≠v.elems[i].key)) (λi h h2=>by omega) ?_ ?_
 ·rintro k u next hk hI ar
  have bad:¬v.R1->∀u,(λp (_:Mem)=>wk p=pB (decide v.R1)) (pB false) u:=λh u=>by show wk (pB false)=_;rw[decide_eq_false h];rfl
  refine ae.t (by simpa using hk) ⟨λ_ u=>1<=v.elems[k].tag/\(∀h0:0<k,v.elems[k-1].tag<v.elems[k].tag),⟨by omega,_,ib hk,_,rfl,ae.mk (λh=>bad (λh2=>?_) u) (λh=>ae.mk (λh0=>⟨by omega,_,ib hk,_,rfl,?_⟩) (λh0=>?_))⟩,?_⟩
  ·have h1:v.elems[k].tag<1:=by simpa using h
   have:=h2.1 _ (List.getElem_mem hk)
   omega
  ·have Al:0<k:=by have:((k:Nat):Int)>0:=by simpa using h0
                   omega
   refine⟨by rw[aB (by omega) (by omega)];omega,_,Cp hk Al,_,rfl,ae.mk (λh1=>bad (λh2=>?_) u) (λh1=>?_)⟩
   ·have h3:v.elems[k].tag<=v.elems[k-1].tag:=by simpa using h1
    have:=List.pairwise_iff_getElem.1 h2.2.1 (k-1) k (by omega) hk (by omega)
    omega
   ·have h3:¬v.elems[k].tag<=v.elems[k-1].tag:=by simpa using h1
    have h4:¬v.elems[k].tag<1:=by simpa using h
    exact⟨by omega,λ_=>by omega⟩
  ·have h4:¬v.elems[k].tag<1:=by simpa using h
   have h5:¬((k:Nat):Int)>0:=by simpa using h0
   exact⟨by omega,λh6=>by omega⟩
  ·rintro _ u1 ⟨p1,p2⟩
   refine aj.each (n:=k) (by omega) (λj u=>∀(i:Nat) (h:i<k),i<j->v.elems[i].key≠v.elems[k].key) (λi h h2=>by omega) ?_ ?_
   ·rintro j u2 dS hj hJ cR
    refine ae.t (by simpa using hj) ⟨by omega,_,ib hk,_,_,_,_,_,_,_,_,_,_,_,_,rfl,by omega,_,ib (by omega),_,_,_,_,_,_,_,_,_,_,_,_,rfl,(IG v.elems[k] v.elems[j]).call ⟨_,rfl,ae.mk (λh=>bad (λh2=>?_) u2) (λh=>cR _ λi hi Ah=>?_)⟩⟩
    ·exact List.pairwise_iff_getElem.1 h2.2.2 j k (by omega) hk hj (ov.1 h).symm
    ·by_cases e:i=j
     ·subst e
      intro e2
      rw[ov.2 e2.symm]at h;cases h
     ·exact hJ i hi (by omega)
   ·rintro u2 dS hJ
    refine ae.f (by simp) (ar _ λi hi oO=>?_)
    by_cases e:i=k
    ·subst e
     exact⟨p1,p2,λj hj=>hJ j hj hj⟩
    ·exact hI i hi (by omega)
 ·rintro u next hI
  refine ae.f (by simp) ?_
  rw[decide_eq_true]
  ·rfl
  ·refine⟨λe he=>?_,yd av.tag λi hi=>?_,?_⟩
   ·obtain⟨i,hi,rfl⟩:=List.mem_iff_getElem.1 he
    exact(hI i hi hi).1
   ·have:=(hI (i+1) hi hi).2.1 (by omega)
    simpa using this
   ·rw[List.pairwise_iff_getElem]
    intro i j hi hj Ah
    exact(hI j hj hj).2.2 i Ah
theorem fm{T:Type}{l:List T}{k:Nat}(hk:k<l.length){x:T}:x∈l.take (k+1)↔x∈l.take k\/x=l[k]:=by rw[fE hk,List.mem_append,List.mem_singleton]
theorem aaa(v:a_)(hv:v.Ok):Pure prog 44 [.agg v.pv] (pB (decide v.R2)):=by
 have he:=hv.e;have hg:=hv.g
 have DI:v.ay.length=v.goals.length:=by unfold a_.ay;simp
 have bad:¬v.R2->∀u,(λp (_:Mem)=>wk p=pB (decide v.R2)) (pB false) u:=λh u=>by show wk (pB false)=_;rw[decide_eq_false h];rfl
 refine ax.of (ug.c ?_)
 refine(vp v hv).call ⟨_,_,rfl,?_⟩
 rw[List.length_map,List.length_map]
 refine aj.each (n:=v.ay.length) (by omega) (λk u=>(∀s∈v.ay.take k,s.k=1)/\(v.ay.take k).Nodup) (by simp) ?_ ?_
 ·rintro k u next hk ⟨lD,Ak⟩ ar
  refine ae.t (by simpa using hk) ⟨by omega,_,jm hk,_,rfl,ae.mk (λh=>bad (λh2=>?_) u) (λh=>⟨by omega,by omega,by omega,by omega,_,jm hk,_,_,_,rfl,?_⟩)⟩
  ·have h1:v.ay[k].k≠1:=by simpa using h
   refine h1 ?_
   have:v.ay[k]=v.goals[k].st:=List.getElem_map (l:=v.goals) Goal.st
   rw[this];exact h2.2.2.1 _ (List.getElem_mem _)
  ·have h1:v.ay[k].k=1:=by simpa using h
   rw[show List.drop (Int.toNat (0:Int)) (List.take (Int.toNat (k:Int)) (v.ay.map Sym.pv))=(v.ay.take k).map Sym.pv from by rw[Int.toNat_natCast,List.map_take];rfl]
   refine(Ry .sh (v.ay.take k) (by rw[List.length_take];omega) v.ay[k]).call ⟨_,rfl,ae.mk (λh3=>bad (λh2=>?_) u) (λh3=>ar _ ⟨λs hs=>?_,?_⟩)⟩
   ·have h4:v.ay[k]∈v.ay.take k:=of_decide_eq_true h3
    have:=h2.2.1
    rw[<- List.take_append_drop k v.ay,List.drop_eq_getElem_cons hk,List.nodup_append]at this
    exact this.2.2 _ h4 _ (by
     exact List.mem_cons_self) rfl
   ·rcases(fm hk).1 hs with hs|rfl
    ·exact lD s hs
    ·exact h1
   ·have h4:v.ay[k]∉v.ay.take k:=of_decide_eq_false h3
    rw[fE hk,List.nodup_append]
    exact⟨Ak,by simp,λa ha b hb=>by simp only[List.mem_singleton]at hb;subst hb;rintro rfl;exact h4 ha⟩
 ·rintro u next ⟨lD,Ak⟩
  rw[List.take_length]at lD Ak
  refine ae.f (by simp) ?_
  refine(vq .sh .sh v.ay v.elems (by omega) (by omega)).call ?_
  rintro _ ⟨ls,rfl,Wp⟩
  have xu:=Wp.le
  refine⟨_,_,rfl,?_⟩
  refine aj.each (n:=v.elems.length) (by omega) (λk u=>∀e∈v.elems.take k,pe v.ay v.elems e.id/\(e.goal=true↔e.id∈v.ay)) (by simp) ?_ ?_
  ·rintro k u2 dS hk hJ cR
   have go:pe v.ay v.elems v.elems[k].id->∀{x:Bool} {u:Mem},x=v.elems[k].goal->
     ae (!(x == decide (v.elems[k].id∈v.ay))) ((λp (_:Mem)=>wk p=pB (decide v.R2)) (pB false) u) (dS (IntKind.wrap .i64 ((k:Int)+1)) u):=λhr {x u} hx=>by
    subst hx
    refine ae.mk (λh=>bad (λh2=>?_) u) (λh=>cR _ λe he=>?_)
    ·have h3:=(h2.2.2.2 _ (List.getElem_mem hk)).2
     have h4:v.elems[k].goal≠decide (v.elems[k].id∈v.ay):=by simpa using h
     apply h4
     by_cases h5:v.elems[k].id∈v.ay
     ·rw[h3.2 h5,decide_eq_true h5]
     ·rw[decide_eq_false h5]
      cases ME:v.elems[k].goal with
      |false=>rfl
      |true=>exact absurd (h3.1 ME) h5
    ·rcases(fm hk).1 he with he|rfl
     ·exact hJ e he
     ·refine⟨hr,?_⟩
      have h4:v.elems[k].goal=decide (v.elems[k].id∈v.ay):=by simpa using h
      rw[h4,decide_eq_true_eq]
   refine ae.t (by simpa using hk) ⟨by omega,_,ib hk,_,_,_,rfl,?_⟩
   simp only[and_true,and_self]
   refine(FX .sh ls (by omega) v.elems[k].id).call ⟨_,rfl,?_⟩
   obtain⟨h0,h1⟩:=Wp.of v.elems[k].id
   refine ae.mk (λh=>?_) (λh=>?_)
   ·have hz:EG ls v.elems[k].id=0:=by simpa using h
    have hb:=bad (λh2=>absurd hz (h1.2 (h2.2.2.2 _ (List.getElem_mem hk)).1)) u2
    exact hb
   ·have hz:EG ls v.elems[k].id≠0:=by simpa using h
    have hr:=h1.1 hz
    have c1:∀{K:Kq},K (pB (decide (v.elems[k].id∈v.ay))) u2->ab prog 97 [.list 3 .sh (v.ay.map Sym.pv),.agg v.elems[k].id.pv] u2 K:=λhK=>(Ry .sh v.ay (by omega) v.elems[k].id).call hK
    refine⟨by omega,_,ib hk,_,_,_,rfl,⟨by omega,_,ib hk,⟨_,rfl,c1 ⟨_,rfl,go hr rfl⟩⟩,c1 ⟨_,rfl,_,rfl,go hr rfl⟩⟩,c1 ⟨_,rfl,by omega,_,ib hk,_,rfl,go hr rfl⟩⟩
  ·rintro u2 dS hJ
   rw[List.take_length]at hJ
   refine ae.f (by simp) ?_
   show wk (pB (decide (((v.ay.length:Nat):Int)>0)))=pB (decide v.R2)
   by_cases h:v.goals=[]
   ·rw[decide_eq_false (p:=v.R2) λh2=>h2.1 h,decide_eq_false (by rw[DI,h];simp)];rfl
   ·have hp:0<v.goals.length:=List.length_pos_iff.2 h
    rw[decide_eq_true (p:=v.R2) ⟨h,Ak,λg Fu=>lD _ (List.mem_map_of_mem Fu),hJ⟩,decide_eq_true (by omega)];rfl
theorem M_(e:av):Pure prog 100 [.agg e.pv] (pB (fi e)):=by
 refine ax.of (pj.c ?_)
 have zO:Pure prog 149 [] (.agg ou.pv):=ax.of (gQ.c rfl)
 refine zO.q ⟨_,_,_,rfl,ae.mk (λh=>ae.mk (λh1=>?_) (λh1=>?_)) (λh=>?_)⟩<;>simp only[wk,cu,fi,bE]
 ·rw[show _=_ from h,h1];rfl
 ·rw[show _=_ from h,h1];rfl
 ·rw[show _=_ from h];rfl
theorem Rj(v:a_)(hv:v.Ok):Pure prog 45 [.agg v.pv] (pB (decide v.R3)):=by
 have he:=hv.e;have hg:=hv.g
 have bad:¬v.R3->∀u,(λp (_:Mem)=>wk p=pB (decide v.R3)) (pB false) u:=λh u=>by show wk (pB false)=_;rw[decide_eq_false h];rfl
 refine ax.of (qE.c ?_)
 rw[List.length_map,List.length_map]
 refine aj.each (n:=v.elems.length) (by omega) (λk u=>∀e∈v.elems.take k,fi e=true->∃g∈v.goals,g.st=e.id/\g.op=e.value/\g.op.k≠0) (by simp) ?_ ?_
 ·rintro k u next hk hI ar
  have add:(fi v.elems[k]=true->∃g∈v.goals,g.st=v.elems[k].id/\g.op=v.elems[k].value/\g.op.k≠0)->∀e∈v.elems.take (k+1),fi e=true->∃g∈v.goals,g.st=e.id/\g.op=e.value/\g.op.k≠0:=λh e he=>by
   rcases(fm hk).1 he with he|rfl
   ·exact hI e he
   ·exact h
  refine ae.t (by simpa using hk) ⟨by omega,_,ib hk,_,_,_,_,_,_,_,_,_,_,_,_,rfl,(M_ v.elems[k]).call ⟨_,rfl,ae.mk (λh=>ar _ (add λh2=>?_)) (λh=>?_)⟩⟩
  ·rw[h2]at h;cases h
  ·have hch:fi v.elems[k]=true:=by simpa using h
   let Q (g:Goal):Prop:=g.st=v.elems[k].id/\g.op=v.elems[k].value/\g.op.k≠0
   refine aj.ed (n:=v.goals.length) (by omega) (λj x u=>(x=true↔∃g∈v.goals.take j,Q g)) (by simp) ?_ ?_
   ·rintro j x u2 dS hj hJ cR
    have Eb:∀{y:Bool} {u:Mem},(y=true↔(∃g∈v.goals.take j,Q g)\/Q v.goals[j])->dS (y,IntKind.wrap .i64 ((j:Int)+1)) u:=λ{y u} h=>cR _ _ (h.trans ⟨λh=>by
     rcases h with⟨g,hg,hq⟩|hq
     ·exact⟨g,(fm hj).2 (.inl hg),hq⟩
     ·exact⟨_,(fm hj).2 (.inr rfl),hq⟩,λ⟨g,hg,hq⟩=>by
     rcases(fm hj).1 hg with hg|rfl
     ·exact .inl ⟨g,hg,hq⟩
     ·exact .inr hq⟩)
    refine ae.t (by simpa using hj) (ae.mk (λh1=>?_) (λh1=>⟨by omega,_,Ky hj,_,_,_,rfl,?_⟩))
    ·refine Eb ?_
     have:=hJ.1 (show x=true from h1)
     simp only[true_iff];exact .inl this
    ·have iA:¬ ∃g∈v.goals.take j,Q g:=λh=>by have:=hJ.2 h;rw[show x=false from h1]at this;cases this
     refine ae.mk (λh2=>⟨by omega,_,Ky hj,_,_,_,rfl,ae.mk (λh3=>?_) (λh3=>?_)⟩) (λh2=>?_)
     ·have e1:v.goals[j].st=v.elems[k].id:=aQ.1 h2
      have e2:v.goals[j].op=v.elems[k].value:=aQ.1 h3
      refine Eb ?_
      rw[bne_iff_ne]
      constructor
      ·intro h;exact .inr ⟨e1,e2,by rw[e2];exact h⟩
      ·rintro(h|h)
       ·exact absurd h iA
       ·have:=h.2.2;rw[e2]at this;exact this
     ·have e2:v.goals[j].op≠v.elems[k].value:=λe=>by
       have:bE v.goals[j].op v.elems[k].value=true:=aQ.2 e
       exact Bool.noConfusion (this.symm.trans h3)
      refine Eb ?_
      simp only[Bool.false_eq_true,false_iff]
      rintro(h|h)
      ·exact iA h
      ·exact e2 h.2.1
     ·have e1:v.goals[j].st≠v.elems[k].id:=λe=>by
       have:bE v.goals[j].st v.elems[k].id=true:=aQ.2 e
       exact Bool.noConfusion (this.symm.trans h2)
      refine Eb ?_
      simp only[Bool.false_eq_true,false_iff]
      rintro(h|h)
      ·exact iA h
      ·exact e1 h.1
   ·rintro x u2 dS hJ
    rw[List.take_length]at hJ
    refine ae.f (by simp) (ae.mk (λh1=>bad (λh2=>?_) u2) (λh1=>ar _ (add λ_=>hJ.1 (by simpa using h1))))
    have:=hJ.2 (h2.1 _ (List.getElem_mem hk) hch)
    rw[this]at h1;cases h1
 ·rintro u next hI
  rw[List.take_length]at hI
  refine ae.f (by simp) ?_
  refine aj.each (n:=v.goals.length) (by omega) (λk u=>∀g∈v.goals.take k,g.op.k≠0->dB v.elems (g.st,ou,g.op,false)/\dB v.elems (g.st,ou,g.op,true)) (by simp) ?_ ?_
  ·rintro k u2 dS hk hJ cR
   refine ae.t (by simpa using hk) ⟨by omega,_,Ky hk,_,_,_,_,_,_,_,_,_,_,rfl,ae.mk (λh=>cR _ λg Fu Qu=>?_) (λh=>?_)⟩
   ·rcases(fm hk).1 Fu with Fu|rfl
    ·exact hJ g Fu Qu
    ·exact absurd (by simpa using h) Qu
   ·have Qu:v.goals[k].op.k≠0:=by simpa using h
    let el (b:Bool):av:=⟨v.goals[k].st,ou,v.goals[k].op,b,false,0⟩
    have hW:Pure prog 101 [pS ⟨#[111,112,101,114,97,116,111,114]⟩] (.agg ou.pv):=ax.of (wX.c rfl)
    refine⟨λs u=>∃b,s=some ⟨b,0,none⟩/\Ow [Pt b 60 (el false).pv] u,⟨?_,?_⟩,?_⟩
    ·refine hW.q ⟨_,_,_,rfl,λb hb=>?_⟩
     have h1:Ow [Pt b 60 [pI 0,pS ⟨#[]⟩,pI 0,pI 0,pS ⟨#[]⟩,pI 0,pI 0,pS ⟨#[]⟩,pI 0,pB false,pB false,pI 0]] _:=Ow.new (L:=[]) _ _ trivial hb
     exact h1.st 0 rfl (by simp) λu3 h3=>⟨b,rfl,h3⟩
    ·intro b hb
     refine hW.q ⟨_,_,_,rfl,?_⟩
     rw[Mem.tw]
     have h1:Ow [Pt b 60 [pI 0,pS ⟨#[]⟩,pI 0,pI 0,pS ⟨#[]⟩,pI 0,pI 0,pS ⟨#[]⟩,pI 0,pB false,pB false,pI 0]] _:=Ow.new (L:=[]) _ _ trivial hb
     exact h1.st 0 rfl (by simp) λu3 h3=>⟨b,rfl,h3⟩
    ·rintro s u3 ⟨b,rfl,h3⟩
     refine⟨_,_,_,_,_,_,_,_,_,_,_,_,h3.rd 0 rfl (by simp),(tW .sh v.elems (by omega) (el false)).call ?_⟩
     rintro _ ⟨x1,rfl⟩
     refine⟨_,_,_,_,_,_,_,_,_,_,_,_,_,rfl,?_⟩
     dsimp only[bD]
     refine h3.st 0 rfl (by simp) λu4 h4=>?_
     have h4':Ow [Pt b 60 (el true).pv] u4:=h4
     refine⟨_,_,_,_,_,_,_,_,_,_,_,_,h4'.rd 0 rfl (by simp),(tW .sh v.elems (by omega) (el true)).call ?_⟩
     rintro _ ⟨x2,rfl⟩
     refine⟨_,_,_,_,_,_,_,_,_,_,_,_,_,rfl,ae.mk (λh1=>bad (λh2=>?_) u4) (λh1=>ae.mk (λh5=>bad (λh2=>?_) u4) (λh5=>cR _ λg Fu bP=>?_))⟩
     ·have:=(h2.2 _ (List.getElem_mem hk) Qu).1
      rw[decide_eq_true (p:=dB v.elems (el false).key) this]at h1;cases h1
     ·have:=(h2.2 _ (List.getElem_mem hk) Qu).2
      rw[decide_eq_true (p:=dB v.elems (el true).key) this]at h5;cases h5
     ·rcases(fm hk).1 Fu with Fu|rfl
      ·exact hJ g Fu bP
      ·exact⟨of_decide_eq_true (p:=dB v.elems (el false).key) (by simpa using h1),of_decide_eq_true (p:=dB v.elems (el true).key) (by simpa using h5)⟩
  ·rintro u2 dS hJ
   rw[List.take_length]at hJ
   refine ae.f (by simp) ?_
   rw[decide_eq_true (p:=v.R3) ⟨hI,hJ⟩];rfl
theorem Vg(v:a_)(hv:v.Ok):Pure prog 46 [.agg v.pv] (pB (decide v.R4)):=by
 have he:=hv.e;have hg:=hv.g;have hp:=hv.p;have hi:=hv.i
 have DI:v.ay.length=v.goals.length:=by unfold a_.ay;simp
 have bad:¬v.R4->∀u,(λp (_:Mem)=>wk p=pB (decide v.R4)) (pB false) u:=λh u=>by show wk (pB false)=_;rw[decide_eq_false h];rfl
 refine ax.of (so.c ?_)
 refine(vp v hv).q ⟨_,_,rfl,(vq .sh .sh v.ay v.elems (by omega) (by omega)).call ?_⟩
 rintro _ ⟨ls,rfl,Wp⟩
 have xu:=Wp.le
 refine⟨_,_,rfl,?_⟩
 rw[List.length_map,List.length_map,List.length_map]
 refine aj.each (n:=v.aS.length) (by omega) (λk u=>∀p∈v.aS.take k,pe v.ay v.elems p.id/\v.gl p.level/\(p.o=true\/∃i∈v.insts,i.num=p.Gb)) (by simp) ?_ ?_
 ·rintro k u next hk hI ar
  refine ae.t (by simpa using hk) ⟨by omega,_,AY hk,_,_,_,_,_,_,_,_,_,_,_,_,_,_,_,_,rfl,(FX .sh ls (by omega) v.aS[k].id).call ⟨_,rfl,?_⟩⟩
  obtain⟨h0,h1⟩:=Wp.of v.aS[k].id
  refine ae.mk (λh=>bad (λh2=>?_) u) (λh=>ae.mk (λh3=>bad (λh2=>?_) u) (λh3=>ae.mk (λh4=>bad (λh2=>?_) u) (λh4=>?_)))
  ·have hz:EG ls v.aS[k].id=0:=by simpa using h
   exact absurd hz (h1.2 (h2 _ (List.getElem_mem hk)).1)
  ·have hz:v.aS[k].level<1:=by simpa using h3
   have:=(h2 _ (List.getElem_mem hk)).2.1.1
   omega
  ·have hz:v.aS[k].level>((v.goals.length:Nat):Int):=by simpa using h4
   have:=(h2 _ (List.getElem_mem hk)).2.1.2
   omega
  ·have hr:=h1.1 (by simpa using h)
   have GG:¬v.aS[k].level<1:=by simpa using h3
   have hg2:¬v.aS[k].level>((v.goals.length:Nat):Int):=by simpa using h4
   refine aj.ed (n:=v.insts.length) (by omega) (λj x u=>(x=true↔v.aS[k].o=true\/∃i∈v.insts.take j,i.num=v.aS[k].Gb)) (by simp) ?_ ?_
   ·rintro j x u2 dS hj hJ cR
    have Eb:∀{y:Bool} {u:Mem},(y=true↔(v.aS[k].o=true\/∃i∈v.insts.take j,i.num=v.aS[k].Gb)\/v.insts[j].num=v.aS[k].Gb)->dS (y,IntKind.wrap .i64 ((j:Int)+1)) u:=λ{y u} h=>cR _ _ (h.trans ⟨λh=>by
     rcases h with(h|⟨i,hi,hq⟩)|hq
     ·exact .inl h
     ·exact .inr ⟨i,(fm hj).2 (.inl hi),hq⟩
     ·exact .inr ⟨_,(fm hj).2 (.inr rfl),hq⟩,λh=>by
     rcases h with h|⟨i,hi,hq⟩
     ·exact .inl (.inl h)
     ·rcases(fm hj).1 hi with hi|rfl
      ·exact .inl (.inr ⟨i,hi,hq⟩)
      ·exact .inr hq⟩)
    refine ae.t (by simpa using hj) (ae.mk (λh1=>?_) (λh1=>⟨by omega,_,Ko hj,_,rfl,?_⟩))
    ·refine Eb ?_
     have:=hJ.1 (show x=true from h1)
     simp only[true_iff];exact .inl this
    ·have iA:¬(v.aS[k].o=true\/∃i∈v.insts.take j,i.num=v.aS[k].Gb):=λh=>by have:=hJ.2 h;rw[show x=false from h1]at this;cases this
     refine Eb ?_
     rw[beq_iff_eq]
     constructor
     ·exact .inr
     ·rintro(h|h)
      ·exact absurd h iA
      ·exact h
   ·rintro x u2 dS hJ
    rw[List.take_length]at hJ
    refine ae.f (by simp) (ae.mk (λh5=>bad (λh2=>?_) u2) (λh5=>ar _ λp wt=>?_))
    ·have:=hJ.2 (h2 _ (List.getElem_mem hk)).2.2
     rw[this]at h5;cases h5
    ·rcases(fm hk).1 wt with wt|rfl
     ·exact hI p wt
     ·exact⟨hr,⟨by omega,by omega⟩,hJ.1 (by simpa using h5)⟩
 ·rintro u next hI
  rw[List.take_length]at hI
  refine ae.f (by simp) ?_
  rw[decide_eq_true (p:=v.R4) hI];rfl
theorem aab(v:a_)(hv:v.Ok):Pure prog 48 [.agg v.pv] (pB (decide v.R6)):=by
 have hi:=hv.i;have hg:=hv.g
 have bad:¬v.R6->∀u,(λp (_:Mem)=>wk p=pB (decide v.R6)) (pB false) u:=λh u=>by show wk (pB false)=_;rw[decide_eq_false h];rfl
 refine ax.of (uh.c ?_)
 rw[List.length_map,List.length_map]
 refine aj.each (n:=v.insts.length) (by omega) (λk u=>∀(i:Nat) (h:i<v.insts.length),i<k->v.gl v.insts[i].level/\∀h0:0<i,v.insts[i-1].num<v.insts[i].num) (λi h h2=>by omega) ?_ ?_
 ·rintro k u next hk hI ar
  have add:v.gl v.insts[k].level->(∀h0:0<k,v.insts[k-1].num<v.insts[k].num)->∀(i:Nat) (h:i<v.insts.length),i<k+1->v.gl v.insts[i].level/\∀h0:0<i,v.insts[i-1].num<v.insts[i].num:=λh1 h2 i hi oO=>by
   by_cases e:i=k
   ·subst e;exact⟨h1,h2⟩
   ·exact hI i hi (by omega)
  refine ae.t (by simpa using hk) ⟨by omega,_,Ko hk,_,rfl,ae.mk (λh=>bad (λh2=>?_) u) (λh=>⟨by omega,_,Ko hk,_,rfl,ae.mk (λh1=>bad (λh2=>?_) u) (λh1=>ae.mk (λh0=>⟨by omega,_,Ko hk,_,rfl,?_⟩) (λh0=>?_))⟩)⟩
  ·have h3:v.insts[k].level<1:=by simpa using h
   have:=(h2.2 _ (List.getElem_mem hk)).1
   omega
  ·have h3:v.insts[k].level>((v.goals.length:Nat):Int):=by simpa using h1
   have:=(h2.2 _ (List.getElem_mem hk)).2
   omega
  ·have Al:0<k:=by have:((k:Nat):Int)>0:=by simpa using h0
                   omega
   have h3:¬v.insts[k].level<1:=by simpa using h
   have h4:¬v.insts[k].level>((v.goals.length:Nat):Int):=by simpa using h1
   refine⟨by rw[aB (by omega) (by omega)];omega,_,Cp hk Al,_,rfl,ae.mk (λh5=>bad (λh2=>?_) u) (λh5=>ar _ (add ⟨by omega,by omega⟩ λ_=>?_))⟩
   ·have h6:v.insts[k].num<=v.insts[k-1].num:=by simpa using h5
    have:=List.pairwise_iff_getElem.1 h2.1 (k-1) k (by omega) hk (by omega)
    omega
   ·have h6:¬v.insts[k].num<=v.insts[k-1].num:=by simpa using h5
    omega
  ·have Al:¬((k:Nat):Int)>0:=by simpa using h0
   have h3:¬v.insts[k].level<1:=by simpa using h
   have h4:¬v.insts[k].level>((v.goals.length:Nat):Int):=by simpa using h1
   exact ar _ (add ⟨by omega,by omega⟩ λh6=>by omega)
 ·rintro u next hI
  refine ae.f (by simp) ?_
  rw[decide_eq_true (p:=v.R6) ⟨yd ma.num λi hi=>by have:=(hI (i+1) hi hi).2 (by omega);simpa using this,λi hi=>by
   obtain⟨j,hj,rfl⟩:=List.mem_iff_getElem.1 hi
   exact(hI j hj hj).1⟩];rfl
theorem Vf(v:a_)(hv:v.Ok)(t:Int):Pure prog 63 [.agg v.pv,pI t] (pB (decide (∃e∈v.elems,e.tag=t))):=by
 have he:=hv.e
 refine ax.of (sm.c ?_)
 rw[List.length_map]
 refine aj.each (n:=v.elems.length) (by omega) (λk u=>∀e∈v.elems.take k,e.tag≠t) (by simp) ?_ ?_
 ·rintro k u next hk hI ar
  refine ae.t (by simpa using hk) ⟨by omega,_,ib hk,_,rfl,ae.mk (λh=>?_) (λh=>ar _ λe he=>?_)⟩
  ·rw[decide_eq_true ⟨_,List.getElem_mem hk,by simpa using h⟩];rfl
  ·rcases(fm hk).1 he with he|rfl
   ·exact hI e he
   ·simpa using h
 ·rintro u next hI
  rw[List.take_length]at hI
  refine ae.f (by simp) ?_
  rw[decide_eq_false λ⟨e,he,h⟩=>hI e he h];rfl
theorem Rp(v:a_)(hv:v.Ok):Pure prog 49 [.agg v.pv] (pB (decide v.R7)):=by
 have hg:=hv.g;have hd:=hv.d
 have bad:¬v.R7->∀u,(λp (_:Mem)=>wk p=pB (decide v.R7)) (pB false) u:=λh u=>by show wk (pB false)=_;rw[decide_eq_false h];rfl
 refine ax.of (qF.c ?_)
 rw[List.length_map,List.length_map,aB (by omega) (by omega)]
 refine ae.mk (λh=>bad (λh2=>?_) M0) (λh=>?_)
 ·have:((v.cD.length:Nat):Int)≠((v.goals.length:Nat):Int)-1:=by simpa using h
  exact this h2.1
 have hlen:((v.cD.length:Nat):Int)=((v.goals.length:Nat):Int)-1:=by simpa using h
 let Q (l:List Int):Prop:=l.Pairwise (λa b=>a<b)/\∀t∈l,∃e∈v.elems,e.tag=t
 refine aj.each (n:=v.cD.length) (by omega) (λk u=>∀l∈v.cD.take k,Q l) (by simp) ?_ ?_
 ·rintro k u next hk hI ar
  have CP:=hv.ds _ (List.getElem_mem hk)
  refine ae.t (by simpa using hk) ⟨by omega,_,aeH hk,_,_,rfl,?_⟩
  rw[List.length_map]
  refine aj.each (n:=v.cD[k].length) (by omega) (λj u=>∀(i:Nat) (h:i<v.cD[k].length),i<j->(∃e∈v.elems,e.tag=v.cD[k][i])/\∀h0:0<i,v.cD[k][i-1]<v.cD[k][i]) (λi h h2=>by omega) ?_ ?_
  ·rintro j u2 dS hj hJ cR
   refine ae.t (by simpa using hj) ⟨by omega,_,Wh hj,_,rfl,(Vf v hv v.cD[k][j]).call ⟨_,rfl,ae.mk (λh1=>bad (λh2=>?_) u2) (λh1=>?_)⟩,trivial⟩
   ·rw[decide_eq_true ((h2.2 _ (List.getElem_mem hk)).2 _ (List.getElem_mem hj))]at h1;cases h1
   ·have hh:∃e∈v.elems,e.tag=v.cD[k][j]:=of_decide_eq_true (by simpa using h1)
    have add:(∀h0:0<j,v.cD[k][j-1]<v.cD[k][j])->∀(i:Nat) (h:i<v.cD[k].length),i<j+1->(∃e∈v.elems,e.tag=v.cD[k][i])/\∀h0:0<i,v.cD[k][i-1]<v.cD[k][i]:=λh2 i hi Ah=>by
     by_cases e:i=j
     ·subst e;exact⟨hh,h2⟩
     ·exact hJ i hi (by omega)
    refine ae.mk (λh0=>⟨by omega,_,Wh hj,_,rfl,?_⟩) (λh0=>?_)
    ·have Al:0<j:=by have:((j:Nat):Int)>0:=by simpa using h0
                     omega
     refine⟨by rw[aB (by omega) (by omega)];omega,_,Cp hj Al,_,rfl,ae.mk (λh5=>bad (λh2=>?_) u2) (λh5=>cR _ (add λ_=>?_))⟩
     ·have h6:v.cD[k][j]<=v.cD[k][j-1]:=by simpa using h5
      have:=List.pairwise_iff_getElem.1 (h2.2 _ (List.getElem_mem hk)).1 (j-1) j (by omega) hj (by omega)
      omega
     ·have h6:¬v.cD[k][j]<=v.cD[k][j-1]:=by simpa using h5
      omega
    ·have Al:¬((j:Nat):Int)>0:=by simpa using h0
     exact cR _ (add λh6=>by omega)
  ·rintro u2 dS hJ
   refine ae.f (by simp) (ar _ λl hl=>?_)
   rcases(fm hk).1 hl with hl|rfl
   ·exact hI l hl
   ·exact⟨yd id λi hi=>by have:=(hJ (i+1) hi hi).2 (by omega);simpa using this,λt ht=>by
     obtain⟨i,hi,rfl⟩:=List.mem_iff_getElem.1 ht
     exact(hJ i hi hi).1⟩
 ·rintro u next hI
  rw[List.take_length]at hI
  refine ae.f (by simp) ?_
  rw[decide_eq_true (p:=v.R7) ⟨hlen,hI⟩];rfl
open Classical
def aaP(a b:Sym):Bool:=decide (aJ a b<0)
theorem ID{a b:Int}:fB a b=0↔a=b:=eK.zero a b
theorem vt(a b:Sym):Pure prog 293 [.agg a.pv,.agg b.pv] (pB (aaP a b)):=by
 refine ax.of (pz.c ?_)
 refine ae.mk (λh=>?_) (λh=>ae.mk (λh1=>?_) (λh1=>?_))<;>simp only[wk,cu,aaP]
 ·have h':a.k≠b.k:=by simpa using h
  have e:aJ a b=fB a.k b.k:=by unfold aJ;rw[if_neg λe=>h' (ID.1 e)]
  rw[e];simp only[KL]
 ·have h':a.k=b.k:=by simpa using h
  have h2:aG a.t b.t=false:=by simpa using h1
  have e:aJ a b=bN a.t b.t:=by unfold aJ;rw[if_pos (ID.2 h'),if_neg λe=>(nO.1 h2) (lW.1 e)]
  rw[e];simp only[lX,Bool.decide_eq_true]
 ·have h':a.k=b.k:=by simpa using h
  have h2:aG a.t b.t=true:=by simpa using h1
  have e:aJ a b=fB a.n b.n:=by unfold aJ;rw[if_pos (ID.2 h'),if_pos (lW.2 (cf.1 h2))]
  rw[e];simp only[KL]
theorem KK{a b:Sym}:aJ a b=0↔bE a b=true:=by rw[aQ];exact aF.zero a b
theorem Nb(a b:av):Pure prog 207 [.agg a.pv,.agg b.pv] (pB (decide (fO a.key b.key<0))):=by
 refine ax.of (po.c ?_)
 have ne:∀{x y:Sym},(!bE x y)=true->aJ x y≠0:=λh e=>by rw[KK.1 e]at h;cases h
 have eq:∀{x y:Sym},(!bE x y)=false->aJ x y=0:=λh=>KK.2 (by simpa using h)
 refine ae.mk (λh=>(vt a.id b.id).call ⟨_,rfl,?_⟩) (λh=>ae.mk (λh1=>(vt a.attr b.attr).call ⟨_,rfl,?_⟩) (λh1=>ae.mk (λh2=>(vt a.value b.value).call ⟨_,rfl,?_⟩) (λh2=>ae.mk (λh3=>?_) (λh3=>?_))))<;>simp only[wk,cu,aaP]
 ·rw[jC,if_neg (ne h)]
 ·rw[jC,if_pos (eq h),if_neg (ne h1)]
 ·rw[jC,if_pos (eq h),if_pos (eq h1),if_neg (ne h2)]
 ·rw[jC,if_pos (eq h),if_pos (eq h1),if_pos (eq h2)]
  have h4:a.acc=false:=by simpa using h3
  rw[h4]
  cases b.acc<;>rfl
 ·rw[jC,if_pos (eq h),if_pos (eq h1),if_pos (eq h2)]
  have h4:a.acc=true:=by simpa using h3
  rw[h4]
  cases b.acc<;>rfl
theorem La{T:Type}{pv:T->List PV}{l:List T}{i:Nat}(h0:0<i)(hi:i<=l.length)(hl:l.length<=1000000:=by omega):(l.map pv)[Int.toNat (IntKind.wrap .i64 ((i:Int)-1))]?=some (pv (l[i-1]'(by omega))):=by
 rw[aB (by omega) (by omega),show Int.toNat ((i:Int)-1)=i-1 from by omega,List.getElem?_map,List.getElem?_eq_getElem (by omega)];rfl
theorem aal(f:Fl)(l:List av)(hl:l.length<=1000000)(e:av):ax prog 152 [.list 12 f (l.map av.pv),.agg e.pv] λp=>∃l2,p=.list 12 .sh (l2.map av.pv)/\l2.length<=l.length+1/\∀k,dB l2 k↔dB l k\/e.key=k:=by
 refine ax.of (uj.c ?_)
 rw[List.length_map]
 refine⟨λs u=>∃i:Nat,s=(i:Int)/\i<=l.length,?_,?_⟩
 ·refine⟨λm s u=>∃i:Nat,s=(i:Int)/\i<=l.length/\m=i,⟨_,l.length,rfl,Nat.le_refl _,rfl⟩,?_⟩
  rintro m s u ⟨i,rfl,hi,rfl⟩
  refine ae.mk (λh=>?_) (λh=>⟨m,rfl,hi⟩)
  have h0:0<m:=by have:((m:Nat):Int)>0:=by simpa using h
                  omega
  refine⟨by rw[aB (by omega) (by omega)];omega,_,La h0 hi,_,_,_,_,_,_,_,_,_,_,_,_,rfl,(Nb e l[m-1]).call ⟨_,rfl,ae.mk (λh1=>⟨m-1,by omega,m-1,by rw[aB (by omega) (by omega)];omega,by omega,rfl⟩) (λh1=>⟨m,rfl,hi⟩)⟩⟩
 ·rintro s u ⟨i,rfl,hi⟩
  refine⟨λ_ u=>True,?_,?_⟩
  ·refine ae.mk (λh=>?_) (λh=>trivial)
   have h0:0<i:=by have:((i:Nat):Int)>0:=by simpa using h
                   omega
   have hi1:i-1<l.length:=by omega
   refine⟨by rw[aB (by omega) (by omega)];omega,_,La h0 hi,_,_,_,_,_,_,_,_,_,_,_,_,rfl,(IG l[i-1] e).call ⟨_,rfl,ae.mk (λh1=>?_) (λh1=>trivial)⟩⟩
   refine⟨l,rfl,by omega,λk=>⟨.inl,?_⟩⟩
   rintro(h2|h2)
   ·exact h2
   ·exact⟨_,List.getElem_mem hi1,by rw[ov.1 h1];exact h2⟩
  ·rintro _ u2 _
   have e1:List.drop (Int.toNat (0:Int)) (List.take (Int.toNat (i:Int)) (l.map av.pv))=(l.take i).map av.pv:=by rw[Int.toNat_natCast,List.map_take];rfl
   have e2:List.drop (Int.toNat (i:Int)) (List.take (Int.toNat ((l.length:Nat):Int)) (l.map av.pv))=(l.drop i).map av.pv:=by rw[Int.toNat_natCast,Int.toNat_natCast,List.take_of_length_le (by simp),List.map_drop]
   refine⟨by omega,by omega,by omega,?_⟩
   rw[e1,e2]
   have O0:Ow [m_ .nil 0 12] u2:=Ow.nil (L:=[]) (μ:=_) trivial (.inl rfl)
   have l1:((l.take i).map av.pv).length=i:=by rw[List.length_map,List.length_take];omega
   have l2:((l.drop i).map av.pv).length=l.length-i:=by rw[List.length_map,List.length_drop]
   refine O0.app rfl (by rw[l1];omega) (by rw[l1];omega) λf1 u3 h3=>?_
   refine h3.app (by simp) (by rw[l1];simp;omega) (by rw[l1];simp;omega) λf2 u4 h4=>⟨by omega,by omega,by omega,?_⟩
   refine h4.app (by simp) (by rw[l1,l2];simp;omega) (by rw[l1,l2];simp;omega) λf3 u5 h5=>⟨l.take i++e::l.drop i,?_,by simp;omega,λk=>?_⟩
   ·show PV.list 12 .sh _=_
    rw[List.map_append,List.map_cons];simp
   ·have hl:l=l.take i++l.drop i:=(List.take_append_drop i l).symm
    constructor
    ·rintro⟨x,hx,hk⟩
     simp only[List.mem_append,List.mem_cons]at hx
     rcases hx with hx|rfl|hx
     ·exact .inl ⟨x,List.mem_of_mem_take hx,hk⟩
     ·exact .inr hk
     ·exact .inl ⟨x,List.mem_of_mem_drop hx,hk⟩
    ·rintro(⟨x,hx,hk⟩|hk)
     ·rw[hl,List.mem_append]at hx
      refine⟨x,?_,hk⟩
      simp only[List.mem_append,List.mem_cons]
      exact hx.imp id .inr
     ·exact⟨e,by simp,hk⟩
theorem xx(p:eC):Pure prog 150 [.agg p.pv] (pB (bE p.attr ou)):=by
 refine ax.of (ss.c ?_)
 have zO:Pure prog 149 [] (.agg ou.pv):=ax.of (gQ.c rfl)
 exact zO.q ⟨_,_,_,rfl,rfl⟩
def He(l:List eC)(p:eC):Prop:=∃q∈l,q.kind=2/\q.id=p.id/\q.attr=p.attr/\q.value=p.value
theorem FV(f:Fl)(l:List eC)(hl:l.length<=1000000)(p:eC):Pure prog 151 [.list 16 f (l.map eC.pv),.agg p.pv] (pB (decide (He l p))):=by
 refine ax.of (mM.c ?_)
 rw[List.length_map]
 refine aj.each (n:=l.length) (by omega) (λk u=>¬He (l.take k) p) (by simp[He]) ?_ ?_
 ·rintro k u next hk hI ar
  have add:¬(l[k].kind=2/\l[k].id=p.id/\l[k].attr=p.attr/\l[k].value=p.value)->¬He (l.take (k+1)) p:=λh ⟨q,hq,h1⟩=>by
   rcases(fm hk).1 hq with hq|rfl
   ·exact hI ⟨q,hq,h1⟩
   ·exact h h1
  have neq:∀{x y:Sym},bE x y=false->x≠y:=λh e=>by rw[aQ.2 e]at h;cases h
  refine ae.t (by simpa using hk) ⟨by omega,_,AY hk,_,rfl,ae.mk (λh=>⟨by omega,_,AY hk,_,_,_,rfl,ae.mk (λh1=>⟨by omega,_,AY hk,_,_,_,rfl,ae.mk (λh2=>⟨by omega,_,AY hk,_,_,_,rfl,ae.mk (λh3=>?_) (λh3=>?_)⟩) (λh2=>?_)⟩) (λh1=>?_)⟩) (λh=>?_)⟩
  ·rw[decide_eq_true (p:=He l p) ⟨_,List.getElem_mem hk,by simpa using h,aQ.1 h1,aQ.1 h2,aQ.1 h3⟩];rfl
  ·exact ar _ (add λhh=>neq h3 hh.2.2.2)
  ·exact ar _ (add λhh=>neq h2 hh.2.2.1)
  ·exact ar _ (add λhh=>neq h1 hh.2.1)
  ·exact ar _ (add λhh=>by simp[hh.1]at h)
 ·rintro u next hI
  rw[List.take_length]at hI
  refine ae.f (by simp) ?_
  rw[decide_eq_false hI];rfl
theorem Cq{p q:eC}:(dq p).key=(dq q).key↔p.id=q.id/\p.attr=q.attr/\p.value=q.value:=by
 unfold dq av.key
 simp only[Prod.mk.injEq]
 constructor
 ·rintro⟨h1,h2,h3,_⟩;exact⟨h1,h2,h3⟩
 ·rintro⟨h1,h2,h3⟩;exact⟨h1,h2,h3,by rw[h2]⟩
def XH(l:List eC)(p:eC):Prop:=(p.kind=1/\bE p.attr ou=false/\¬He l p)\/(bE p.attr ou=true/\(p.kind=1\/p.kind=3))
theorem Tf{l:List eC}{k:NL}:lH l k↔∃p∈l,(dq p).key=k/\XH l p:=by
 constructor
 ·rintro⟨⟨p,hp,hk,h1⟩,h2⟩
  refine⟨p,hp,hk,?_⟩
  by_cases ho:p.attr=ou
  ·exact .inr ⟨aQ.2 ho,h1.imp id λh=>h.1⟩
  ·have h3:p.kind=1:=h1.resolve_right λh=>ho h.2
   refine .inl ⟨h3,by rw[<- Bool.not_eq_true,aQ];exact ho,?_⟩
   rintro⟨q,hq,q1,q2,q3,q4⟩
   exact h2 ⟨q,hq,by rw[<- hk];exact Cq.2 ⟨q2,q3,q4⟩,q1,by rw[q3];exact ho⟩
 ·rintro⟨p,hp,hk,h|h⟩
  ·have ho:p.attr≠ou:=λe=>by rw[aQ.2 e]at h;cases h.2.1
   refine⟨⟨p,hp,hk,.inl h.1⟩,?_⟩
   rintro⟨q,hq,q1,q2,q3⟩
   obtain⟨e1,e2,e3⟩:=Cq.1 (q1.trans hk.symm)
   exact h.2.2 ⟨q,hq,q2,e1,e2,e3⟩
  ·have ho:p.attr=ou:=aQ.1 h.1
   refine⟨⟨p,hp,hk,h.2.imp id λh=>⟨h,ho⟩⟩,?_⟩
   rintro⟨q,hq,q1,q2,q3⟩
   obtain⟨e1,e2,e3⟩:=Cq.1 (q1.trans hk.symm)
   exact q3 (e2.trans ho)
theorem RC(f:Fl)(l:List eC)(hl:l.length<=100000):ax prog 103 [.list 16 f (l.map eC.pv)] λp=>∃es,p=.list 12 .sh (es.map av.pv)/\es.length<=l.length/\∀k,dB es k↔lH l k:=by
 refine ax.of (qG.c ?_)
 rw[List.length_map]
 refine aj.ed (n:=l.length) (by omega) (λi s u=>∃es:List av,s.2=es.map av.pv/\es.length<=i/\∀k,dB es k↔∃p∈l.take i,(dq p).key=k/\XH l p) ⟨[],rfl,by simp,by simp[dB]⟩ ?_ ?_
 ·rintro i ⟨fr,_⟩ u next hi ⟨es,rfl,hlen,vg⟩ ar
  dsimp only
  refine ae.t (by simpa using hi) ⟨by omega,_,AY hi,_,_,_,_,_,_,_,_,_,_,_,_,_,_,_,_,rfl,?_⟩
  refine⟨λs u=>∃b,s=some ⟨b,0,none⟩/\Ow [Pt b 60 (dq l[i]).pv] u,⟨?_,?_⟩,?_⟩
  ·refine(xx l[i]).q ⟨_,rfl,λb hb=>?_⟩
   have h1:Ow [Pt b 60 [pI 0,pS ⟨#[]⟩,pI 0,pI 0,pS ⟨#[]⟩,pI 0,pI 0,pS ⟨#[]⟩,pI 0,pB false,pB false,pI 0]] _:=Ow.new (L:=[]) _ _ trivial hb
   exact h1.st 0 rfl (by simp) λu3 h3=>⟨b,rfl,h3⟩
  ·intro b hb
   refine(xx l[i]).q ⟨_,rfl,?_⟩
   rw[Mem.tw]
   have h1:Ow [Pt b 60 [pI 0,pS ⟨#[]⟩,pI 0,pI 0,pS ⟨#[]⟩,pI 0,pI 0,pS ⟨#[]⟩,pI 0,pB false,pB false,pI 0]] _:=Ow.new (L:=[]) _ _ trivial hb
   exact h1.st 0 rfl (by simp) λu3 h3=>⟨b,rfl,h3⟩
  ·rintro s u3 ⟨b,rfl,h3⟩
   refine⟨λx u=>(x=true↔XH l l[i])/\Ow [Pt b 60 (dq l[i]).pv] u,?_,?_⟩
   ·have sl:∀{J:Bool->Mem->Prop} {u:Mem},¬(l[i].kind=1/\bE l[i].attr ou=false/\¬He l l[i])->(∀x,(x=true↔XH l l[i])->J x u)->ab prog 150 [.agg l[i].pv] u λXF zW=>∃x42,XF=(pB x42)/\ae x42 (ae ((l[i].kind:Int) == (1)) (J true zW) (J ((l[i].kind:Int) == (3)) zW)) (J false zW):=λ{J u} iA hJ=>by
     refine(xx l[i]).call ⟨_,rfl,ae.mk (λh=>ae.mk (λh1=>hJ _ ?_) (λh1=>hJ _ ?_)) (λh=>hJ _ ?_)⟩
     ·simp only[true_iff];exact .inr ⟨h,.inl (by simpa using h1)⟩
     ·rw[beq_iff_eq]
      constructor
      ·intro h2;exact .inr ⟨h,.inr h2⟩
      ·rintro(h2|h2)
       ·exact absurd h2 iA
       ·exact h2.2.resolve_left (by simpa using h1)
     ·simp only[Bool.false_eq_true,false_iff]
      rintro(h2|h2)
      ·exact iA h2
      ·rw[h2.1]at h;cases h
    refine ae.mk (λh=>(xx l[i]).call ⟨_,rfl,ae.mk (λh1=>(FV _ l (by omega) l[i]).call ⟨_,rfl,ae.mk (λh2=>?_) (λh2=>?_)⟩) (λh1=>?_)⟩) (λh=>?_)
    ·refine⟨?_,h3⟩
     simp only[true_iff]
     have h9:bE l[i].attr ou=false:=(Bool.not_eq_true' _).mp h1
     exact .inl ⟨by simpa using h,h9,of_decide_eq_false (by simpa using h2)⟩
    ·exact sl (J:=λx u=>(x=true↔XH l l[i])/\Ow [Pt b 60 (dq l[i]).pv] u) (λhh=>hh.2.2 (of_decide_eq_true (by simpa using h2))) λx hx=>⟨hx,h3⟩
    ·exact sl (J:=λx u=>(x=true↔XH l l[i])/\Ow [Pt b 60 (dq l[i]).pv] u) (λhh=>by have h9:=hh.2.1;simp_all) λx hx=>⟨hx,h3⟩
    ·exact sl (J:=λx u=>(x=true↔XH l l[i])/\Ow [Pt b 60 (dq l[i]).pv] u) (λhh=>by simp[hh.1]at h) λx hx=>⟨hx,h3⟩
   ·rintro x u4 ⟨hx,h4⟩
    refine ae.mk (λh=>⟨_,_,_,_,_,_,_,_,_,_,_,_,h4.rd 0 rfl (by simp),(aal fr es (by omega) (dq l[i])).call ?_⟩) (λh=>ar _ _ ⟨es,rfl,by omega,λk=>?_⟩)
    ·rintro _ ⟨es2,rfl,uF,ale⟩
     refine⟨_,_,rfl,ar _ _ ⟨es2,rfl,by omega,λk=>?_⟩⟩
     rw[ale,vg]
     constructor
     ·rintro(⟨p,hp,h1⟩|h1)
      ·exact⟨p,(fm hi).2 (.inl hp),h1⟩
      ·exact⟨_,(fm hi).2 (.inr rfl),h1,hx.1 h⟩
     ·rintro⟨p,hp,h1⟩
      rcases(fm hi).1 hp with hp|rfl
      ·exact .inl ⟨p,hp,h1⟩
      ·exact .inr h1.1
    ·rw[vg]
     constructor
     ·rintro⟨p,hp,h1⟩;exact⟨p,(fm hi).2 (.inl hp),h1⟩
     ·rintro⟨p,hp,h1⟩
      rcases(fm hi).1 hp with hp|rfl
      ·exact⟨p,hp,h1⟩
      ·have:=hx.2 h1.2
       rw[this]at h;cases h
 ·rintro⟨fr,_⟩ u next ⟨es,rfl,hlen,vg⟩
  rw[List.take_length]at vg
  exact ae.f (by simp) ⟨es,rfl,hlen,λk=>(vg k).trans Tf.symm⟩
theorem Vh(v:a_)(hv:v.Ok):Pure prog 47 [.agg v.pv] (pB (decide v.R5)):=by
 have he:=hv.e;have hg:=hv.g;have hp:=hv.p
 have DI:v.ay.length=v.goals.length:=by unfold a_.ay;simp
 have bad:¬v.R5->∀u,(λp (_:Mem)=>wk p=pB (decide v.R5)) (pB false) u:=λh u=>by show wk (pB false)=_;rw[decide_eq_false h];rfl
 refine ax.of (sq.c ?_)
 refine(vp v hv).q ⟨_,_,rfl,(vq .sh .sh v.ay v.elems (by omega) (by omega)).call ?_⟩
 rintro _ ⟨ls,rfl,Wp⟩
 have xu:=Wp.le
 refine⟨_,_,rfl,(RC .sh v.aS (by omega)).call ?_⟩
 rintro _ ⟨es,rfl,NF,vg⟩
 refine⟨_,_,rfl,?_⟩
 rw[List.length_map,List.length_map]
 refine aj.each (n:=es.length) (by omega) (λk u=>∀e∈es.take k,pe v.ay v.elems e.id->dB v.elems e.key) (by simp) ?_ ?_
 ·rintro k u next hk hI ar
  have add:(pe v.ay v.elems es[k].id->dB v.elems es[k].key)->∀e∈es.take (k+1),pe v.ay v.elems e.id->dB v.elems e.key:=λh e he=>by
   rcases(fm hk).1 he with he|rfl
   ·exact hI e he
   ·exact h
  refine ae.t (by simpa using hk) ⟨λx u=>x=decide (dB v.elems es[k].key),⟨by omega,_,ib hk,_,_,_,_,_,_,_,_,_,_,_,_,rfl,?_,?_⟩,?_⟩
  ·refine(tW .sh v.elems (by omega) es[k]).call ?_
   rintro _ ⟨x1,rfl⟩
   refine⟨_,_,_,_,_,_,_,_,_,_,_,_,_,rfl,λb hb=>?_⟩
   have h1:Ow [Pt b 60 [pI 0,pS ⟨#[]⟩,pI 0,pI 0,pS ⟨#[]⟩,pI 0,pI 0,pS ⟨#[]⟩,pI 0,pB false,pB false,pI 0]] _:=Ow.new (L:=[]) _ _ trivial hb
   exact h1.st 0 rfl (by simp) λu3 h3=>rfl
  ·intro b hb
   have h1:Ow [Pt b 60 [pI 0,pS ⟨#[]⟩,pI 0,pI 0,pS ⟨#[]⟩,pI 0,pI 0,pS ⟨#[]⟩,pI 0,pB false,pB false,pI 0]] _:=Ow.new (L:=[]) _ _ trivial hb
   refine(tW .sh v.elems (by omega) es[k]).call ?_
   rintro _ ⟨x1,rfl⟩
   exact⟨_,_,_,_,_,_,_,_,_,_,_,_,_,rfl,h1.st 0 rfl (by simp) λu3 h3=>rfl⟩
  ·rintro x u2 rfl
   refine ae.mk (λh=>⟨by omega,_,ib hk,_,_,_,rfl,(FX .sh ls (by omega) es[k].id).call ⟨_,rfl,?_⟩⟩) (λh=>ar _ (add λ_=>of_decide_eq_true (by simpa using h)))
   have iA:¬dB v.elems es[k].key:=of_decide_eq_false (by simpa using h)
   obtain⟨h0,h1⟩:=Wp.of es[k].id
   refine ae.mk (λh3=>bad (λh2=>?_) u2) (λh3=>ar _ (add λhr=>?_))
   ·have h4:EG ls es[k].id>0:=by simpa using h3
    exact iA (h2.1 _ ((vg _).1 ⟨_,List.getElem_mem hk,rfl⟩) (h1.1 (by omega)))
   ·have h4:¬EG ls es[k].id>0:=by simpa using h3
    have:=h1.2 hr
    omega
 ·rintro u next hI
  rw[List.take_length]at hI
  refine ae.f (by simp) ?_
  refine aj.each (n:=v.elems.length) (by omega) (λk u=>∀e∈v.elems.take k,e.acc=true->lH v.aS e.key) (by simp) ?_ ?_
  ·rintro k u2 dS hk hJ cR
   have add:(v.elems[k].acc=true->lH v.aS v.elems[k].key)->∀e∈v.elems.take (k+1),e.acc=true->lH v.aS e.key:=λh e he=>by
    rcases(fm hk).1 he with he|rfl
    ·exact hJ e he
    ·exact h
   refine ae.t (by simpa using hk) ⟨by omega,_,ib hk,_,_,_,_,_,_,_,_,_,_,_,_,rfl,(tW .sh es (by omega) v.elems[k]).call ?_⟩
   rintro _ ⟨x1,rfl⟩
   refine⟨_,_,_,_,_,_,_,_,_,_,_,_,_,rfl,by omega,_,ib hk,_,rfl,ae.mk (λh=>ae.mk (λh1=>bad (λh2=>?_) u2) (λh1=>cR _ (add λ_=>(vg _).1 (of_decide_eq_true (by simpa using h1))))) (λh=>cR _ (add λh2=>?_))⟩
   ·have:=(vg _).2 (h2.2 _ (List.getElem_mem hk) h)
    rw[decide_eq_true this]at h1;cases h1
   ·rw[h2]at h;cases h
  ·rintro u2 dS hJ
   rw[List.take_length]at hJ
   refine ae.f (by simp) ?_
   rw[decide_eq_true (p:=v.R5) ⟨λk hk hr=>?_,hJ⟩]
   ·rfl
   ·obtain⟨e,zQ,rfl⟩:=(vg k).2 hk
    exact hI e zQ hr
theorem UH{l:List Bool}{K:Kq}{u:Mem}(hl:l.length<=100)(h:∀(k:Nat) (hk:k<l.length),(∀(j:Nat) (hj:j<k),l[j]=true)->l[k]=false->∀u,K (pI ((k:Int)+1)) u)(h0:(∀b∈l,b=true)->∀u,K (pI 0) u):
  aj (α:=Int) (λnext s XN=>ae (decide ((s:Int)<((List.length (l.map λb=>[pB b]):Nat):Int))) ((0:Int)<=s/\∃(r28:List PV),(l.map λb=>[pB b])[Int.toNat s]?=some r28/\∃x29,aA r28 0 1=some [pB x29]/\ae (!x29) (K (pI (IntKind.wrap .i64 (s+(1)))) XN) (next (IntKind.wrap .i64 (s+(1))) XN)) (K (pI (0)) XN)) (0) u:=by
 rw[List.length_map]
 refine aj.each (n:=l.length) (by omega) (λk u=>∀(j:Nat) (hj:j<l.length),j<k->l[j]=true) (λj hj h=>by omega) ?_ ?_
 ·rintro k u next hk hI ar
  have row:(l.map λb=>[pB b])[Int.toNat (k:Int)]?=some [pB l[k]]:=aI hk
  refine ae.t (by simpa using hk) ⟨by omega,_,row,_,rfl,ae.mk (λhb=>?_) (λhb=>ar _ λj hj Wx=>?_)⟩
  ·rw[aB (by omega) (by omega)]
   exact h k hk (λj hj=>hI j (by omega) hj) (by simpa using hb) u
  ·by_cases e:j=k
   ·subst e;simpa using hb
   ·exact hI j hj (by omega)
 ·rintro u next hI
  refine ae.f (by simp) (h0 (λb hb=>?_) u)
  obtain⟨j,hj,rfl⟩:=List.mem_iff_getElem.1 hb
  exact hI j hj hj
theorem UZ(v:a_)(hv:v.Ok):Pure prog 9 [.agg v.pv] (pI v.first):=by
 refine ax.of (sr.c ?_)
 refine(aan v hv).q ⟨_,rfl,(aaa v hv).q ⟨_,rfl,(Rj v hv).q ⟨_,rfl,(Vg v hv).q ⟨_,rfl,(Vh v hv).q ⟨_,rfl,(aab v hv).q ⟨_,rfl,(Rp v hv).call ⟨_,rfl,?_⟩⟩⟩⟩⟩⟩⟩
 obtain⟨h1,h2⟩:=It v.yQ
 exact UH (K:=λp _=>az.wk p=pI v.first) (l:=[decide v.R1,decide v.R2,decide v.R3,decide v.R4,decide v.R5,decide v.R6,decide v.R7]) (by simp) (λk hk hj hf u=>by rw[h1 k hk hj hf];rfl) (λh u=>by rw[h2 h];rfl)
namespace SI
abbrev KY:=Sym
abbrev VL:=Int
abbrev El:=Sym×Int
@[reducible] def pv(x:El):List PV:=[pI x.1.k,pS x.1.t,pI x.1.n,pI x.2]
@[reducible] def arg(x:El):PV:=.agg (pv x)
@[reducible] def eL(k:Sym):PV:=.agg k.pv
@[reducible] def pk(k:Sym):List PV:=k.pv
@[reducible] def pl(v:Int):List PV:=[pI v]
@[reducible] def sd(v:Int):PV:=pI v
def z:Int:=0
def key(x:El):Sym:=x.1
abbrev ck:Sym->Sym->Int:=aJ
theorem hc:kQ ck:=aF
theorem zh(a b:El):Pure prog 537 [arg a,arg b] (pI (ck (key a) (key b))):=by
 refine ax.of (g_.c ?_)
 first
  |exact(iE _ _).call ⟨_,rfl,rfl⟩
  |exact⟨λv=>by kernel_rfl,(iE _ _).call ⟨_,rfl,rfl⟩⟩
@[reducible] noncomputable def D:SD:=⟨prog,381,239,4,40,537,λQ=>∃xa xb xc xd,Q [pI xa,pS xb,pI xc,pI xd],.agg,[pI (0),pS ⟨#[]⟩,pI (0),pI (0)]⟩
theorem uC:Jh D pv arg key ck:=⟨λx Q h=>⟨_,_,_,_,h⟩,λ_=>rfl,λ_=>rfl,λ_=>rfl,λ_=>rfl,hc,zh,λv=>by kernel_rfl,rfl,by decide,by decide⟩
theorem eD{x:El}{a0:Option Addr}{u0:Mem}{K:Kq}(h:D.find a0 u0 K (arg x)):ab prog 201 [pA a0,arg x] u0 K:=VC [3] [(2,⟨[(6,.one (.raw (.int .i64))),(7,.one (.raw (.int .i64)))],[]⟩)] [] [] [] [] [] func201 h
theorem Po{x:El}{a0:Option Addr}{u0:Mem}{K:Kq}(h:D.get a0 u0 K (arg x) 201):ab prog 131 [pA a0,arg x] u0 K:=VC [3,4,6] [] [] [] [] [] [] func131 h
theorem Hu{x:El}{a0:Option Addr}{u0:Mem}{K:Kq}(h:D.ZN a0 u0 K (arg x) 201):ab prog 131 [pA a0,arg x] u0 K:=VC [3,4,6] [] [] [] [] [] [24] func131 h
def Ar:=uC.Ar eD Po Hu
theorem lM{a0:Option Addr}{u0:Mem}{K:Kq}(h:D.own a0 u0 K):ab prog 202 [pA a0] u0 K:=VC [] [] [] [] [] [] [] func202 h
theorem oz{x:El}{a0:Option Addr}{u0:Mem}{K:Kq}(h:D.put a0 u0 K (pv x) (arg x) 201 202):ab prog 133 [pA a0,arg x] u0 K:=VC [3] [(9,⟨[(7,.one (.raw (.int .i64)))],[]⟩)] [] [] [] [] [23,32,43,48,57] func133 h
def f_:=uC.f_ eD lM oz
theorem Hw{x:El}{a0:Option Addr}{u0:Mem}{K:Kq}(h:D.drop a0 u0 K (arg x) 201 202):ab prog 134 [pA a0,arg x] u0 K:=VC [3] [(8,⟨[(7,.one (.raw (.int .i64)))],[]⟩)] [] [] [] [] [26,34,39,49,53,56] func134 h
def BG:=uC.BG eD lM Hw
theorem oA{fl:Fl}{l:Lq}{u0:Mem}{K:Kq}(h:D.new u0 K 133 l):ab prog 130 [.list 4 fl l] u0 K:=VC [5] [(3,⟨[(10,.one (.raw (.int .i64)))],[]⟩)] [] [] [] [] [] func130 h
def gX:=uC.gX f_ oA
@[reducible] noncomputable def M:MD:=⟨D,241,146,3,1,132,λQ=>∃xa xb xc,Q [pI xa,pS xb,pI xc],.agg,λQ=>∃x,Q [pI x],λr=>r.headD .au,[pI (0)]⟩
abbrev DM(m:Nat)(l:List El):bk:=cm M pv m l
theorem cAt(k:KY):Pure prog 132 [eL k] (arg (k,z)):=ax.of (nC.c rfl)
theorem mok:zG M pv arg pk eL pl sd z key ck:=⟨uC,λ_ _=>rfl,λ_=>rfl,λ_=>rfl,λ_=>rfl,λk Q h=>⟨_,_,_,h⟩,λ_=>rfl,λv Q h=>⟨_,h⟩,λ_=>rfl,λ_=>rfl,λQ h=>⟨_,_,_,_,h⟩,λQ h=>⟨_,h⟩,rfl,rfl,by decide,cAt,λ_ _ _ _ h=>h,λ_ _ _=>rfl⟩
theorem Ht{k:KY}{a0:Option Addr}{u0:Mem}{K:Kq}(h:M.get a0 u0 K (eL k) 131):ab prog 79 [pA a0,eL k] u0 K:=VC [3] [] [(5,⟨[(7,.one (.raw .ptr)),(8,.one (.raw .bool))],[]⟩)] [] [] [] [] func79 h
def tV:=mok.tV Ar Ht
theorem Hr{k:KY}{v:VL}{a0:Option Addr}{u0:Mem}{K:Kq}(h:M.put a0 u0 K (eL k) 131 133 134 (arg (k,v)) (pl v)):ab prog 80 [pA a0,eL k,sd v] u0 K:=VC [4] [] [(4,⟨[(7,.one (.raw .ptr)),(8,.one (.raw .bool))],[]⟩)] [] [] [] [] func80 h
def zg:=mok.zg Ar f_ BG Hr
theorem Hs{u0:Mem}{K:Kq}(h:M.new u0 K 130):ab prog 78 [] u0 K:=VC [] [] [] [] [] [] [] func78 h
def Ru:=MD.gX (M:=M) (pr:=pv) Hs λ_ _ hO _ hk=>gX hO .nil [] (by simp) hk
end SI
namespace SS
abbrev KY:=Sym
abbrev VL:=Option Addr
abbrev El:=Sym×Option Addr
@[reducible] def pv(x:El):List PV:=[pI x.1.k,pS x.1.t,pI x.1.n,.raw (.pointer x.2)]
@[reducible] def arg(x:El):PV:=.agg (pv x)
@[reducible] def eL(k:Sym):PV:=.agg k.pv
@[reducible] def pk(k:Sym):List PV:=k.pv
@[reducible] def pl(v:Option Addr):List PV:=[.raw (.pointer v)]
@[reducible] def sd(v:Option Addr):PV:=.raw (.pointer v)
def z:Option Addr:=none
def key(x:El):Sym:=x.1
abbrev ck:Sym->Sym->Int:=aJ
theorem hc:kQ ck:=aF
theorem zh(a b:El):Pure prog 538 [arg a,arg b] (pI (ck (key a) (key b))):=by
 refine ax.of (dI.c ?_)
 first
  |exact(iE _ _).call ⟨_,rfl,rfl⟩
  |exact⟨λv=>by kernel_rfl,(iE _ _).call ⟨_,rfl,rfl⟩⟩
@[reducible] noncomputable def D:SD:=⟨prog,388,249,4,40,538,λQ=>∃xa xb xc xd,Q [pI xa,pS xb,pI xc,pA xd],.agg,[pI (0),pS ⟨#[]⟩,pI (0),pA none]⟩
theorem uC:Jh D pv arg key ck:=⟨λx Q h=>⟨_,_,_,_,h⟩,λ_=>rfl,λ_=>rfl,λ_=>rfl,λ_=>rfl,hc,zh,λv=>by kernel_rfl,rfl,by decide,by decide⟩
theorem eD{x:El}{a0:Option Addr}{u0:Mem}{K:Kq}(h:D.find a0 u0 K (arg x)):ab prog 206 [pA a0,arg x] u0 K:=VC [3] [(2,⟨[(6,.one (.raw (.int .i64))),(7,.one (.raw (.int .i64)))],[]⟩)] [] [] [] [] [] func206 h
theorem Po{x:El}{a0:Option Addr}{u0:Mem}{K:Kq}(h:D.get a0 u0 K (arg x) 206):ab prog 137 [pA a0,arg x] u0 K:=VC [3,4,6] [] [] [] [] [] [] func137 h
theorem Hu{x:El}{a0:Option Addr}{u0:Mem}{K:Kq}(h:D.ZN a0 u0 K (arg x) 206):ab prog 137 [pA a0,arg x] u0 K:=VC [3,4,6] [] [] [] [] [] [24] func137 h
def Ar:=uC.Ar eD Po Hu
theorem lM{a0:Option Addr}{u0:Mem}{K:Kq}(h:D.own a0 u0 K):ab prog 292 [pA a0] u0 K:=VC [] [] [] [] [] [] [] func292 h
theorem oz{x:El}{a0:Option Addr}{u0:Mem}{K:Kq}(h:D.put a0 u0 K (pv x) (arg x) 206 292):ab prog 204 [pA a0,arg x] u0 K:=VC [3] [(9,⟨[(7,.one (.raw (.int .i64)))],[]⟩)] [] [] [] [] [23,32,43,48,57] func204 h
def f_:=uC.f_ eD lM oz
theorem Hw{x:El}{a0:Option Addr}{u0:Mem}{K:Kq}(h:D.drop a0 u0 K (arg x) 206 292):ab prog 205 [pA a0,arg x] u0 K:=VC [3] [(8,⟨[(7,.one (.raw (.int .i64)))],[]⟩)] [] [] [] [] [26,34,39,49,53,56] func205 h
def BG:=uC.BG eD lM Hw
theorem oA{fl:Fl}{l:Lq}{u0:Mem}{K:Kq}(h:D.new u0 K 204 l):ab prog 203 [.list 4 fl l] u0 K:=VC [5] [(3,⟨[(10,.one (.raw (.int .i64)))],[]⟩)] [] [] [] [] [] func203 h
def gX:=uC.gX f_ oA
@[reducible] noncomputable def M:MD:=⟨D,253,247,3,1,138,λQ=>∃xa xb xc,Q [pI xa,pS xb,pI xc],.agg,λQ=>∃x,Q [pA x],λr=>r.headD .au,[pA none]⟩
theorem cAt(k:KY):Pure prog 138 [eL k] (arg (k,z)):=ax.of (fP.c rfl)
theorem mok:zG M pv arg pk eL pl sd z key ck:=⟨uC,λ_ _=>rfl,λ_=>rfl,λ_=>rfl,λ_=>rfl,λk Q h=>⟨_,_,_,h⟩,λ_=>rfl,λv Q h=>⟨_,h⟩,λ_=>rfl,λ_=>rfl,λQ h=>⟨_,_,_,_,h⟩,λQ h=>⟨_,h⟩,rfl,rfl,by decide,cAt,λ_ _ _ _ h=>h,λ_ _ _=>rfl⟩
theorem Ht{k:KY}{a0:Option Addr}{u0:Mem}{K:Kq}(h:M.get a0 u0 K (eL k) 137):ab prog 82 [pA a0,eL k] u0 K:=VC [3] [] [(5,⟨[(7,.one (.raw .ptr)),(8,.one (.raw .bool))],[]⟩)] [] [] [] [] func82 h
def tV:=mok.tV Ar Ht
theorem Hr{k:KY}{v:VL}{a0:Option Addr}{u0:Mem}{K:Kq}(h:M.put a0 u0 K (eL k) 137 204 205 (arg (k,v)) (pl v)):ab prog 136 [pA a0,eL k,sd v] u0 K:=VC [4] [] [(4,⟨[(7,.one (.raw .ptr)),(8,.one (.raw .bool))],[]⟩)] [] [] [] [] func136 h
def zg:=mok.zg Ar f_ BG Hr
theorem Hs{u0:Mem}{K:Kq}(h:M.new u0 K 203):ab prog 135 [] u0 K:=VC [] [] [] [] [] [] [] func135 h
def Ru:=MD.gX (M:=M) (pr:=pv) Hs λ_ _ hO _ hk=>gX hO .nil [] (by simp) hk
end SS
end Go.Proofs.YtbkejjmjopgpoaaGreat
namespace Go.az
open Go.RowKit
namespace MM
section
variable {KY V:Type}
def pg(x:KY×Nat×List V):KY×Option Addr:=(x.1,some ⟨x.2.1,0,none⟩)
def st(D:SD)(gR:V->List PV)(x:KY×Nat×List V):bk:=bp D.TS D.TE D.W x.2.1 (x.2.2.map gR)
def kv(x:KY×Nat×List V):KY×List V:=(x.1,x.2.2)
def key(x:KY×List V):KY:=x.1
end
section
variable {KY V:Type} (M:MD) (pr:KY×Option Addr->List PV) (D:SD) (gR:V->List PV)
def At(m:Nat)(P:List (KY×List V)):bk:=λμ=>∃l:List (KY×Nat×List V),l.map kv=P/\Ow (cm M pr m (l.map pg)::l.map (st D gR)) μ
def Jk(m:Nat)(A:List (KY×List V))(k:KY)(b:Nat)(B:List (KY×List V)):bk:=λμ=>∃lA lB:List (KY×Nat×List V),lA.map kv=A/\lB.map kv=B/\Ow (cm M pr m (lA.map pg++(k,some ⟨b,0,none⟩)::lB.map pg)::(lA.map (st D gR)++lB.map (st D gR))) μ
end
section
variable {KY V:Type} {M:MD} {pr:KY×Option Addr->List PV} {D:SD} {gR:V->List PV} {m b:Nat} {A B P:List (KY×List V)} {k:KY} {vs:List V} {L:List bk} {μ:Mem}
theorem Jk.rD(h:Ow (bp D.TS D.TE D.W b (vs.map gR)::Jk M pr D gR m A k b B::L) μ):Ow (At M pr D gR m (A++(k,vs)::B)::L) μ:=by
 obtain⟨lA,h⟩:=Ow.ex h.swap
 obtain⟨lB,h⟩:=Ow.ex h
 obtain⟨eA,h⟩:=Ow.and h
 obtain⟨eB,h⟩:=Ow.and h
 have h1:Ow (cm M pr m (lA.map pg++(k,some ⟨b,0,none⟩)::lB.map pg)::((lA.map (st D gR)++lB.map (st D gR))++(bp D.TS D.TE D.W b (vs.map gR)::L))) μ:=h.nest (L1:=cm M pr m (lA.map pg++(k,some ⟨b,0,none⟩)::lB.map pg)::(lA.map (st D gR)++lB.map (st D gR)))
 have h2:Ow (cm M pr m (lA.map pg++(k,some ⟨b,0,none⟩)::lB.map pg)::(((lA.map (st D gR))++bp D.TS D.TE D.W b (vs.map gR)::lB.map (st D gR))++L)) μ:=
  h1.tail λν hν=>(Ow.XJ (P:=[]) (A:=lA.map (st D gR)) (B:=lB.map (st D gR)) (x:=bp D.TS D.TE D.W b (vs.map gR)) (by
   have:=Ow.nq hν
   exact this))
 refine(Ow.pack (L1:=cm M pr m (lA.map pg++(k,some ⟨b,0,none⟩)::lB.map pg)::((lA.map (st D gR))++bp D.TS D.TE D.W b (vs.map gR)::lB.map (st D gR))) h2).imp λν hν=>⟨lA++(k,b,vs)::lB,?_,?_⟩
 ·rw[List.map_append,List.map_cons,eA,eB];rfl
 ·rw[List.map_append,List.map_cons,List.map_append,List.map_cons];exact hν
theorem At.nil(h:Ow (cm M pr m []::L) μ):Ow (At M pr D gR m []::L) μ:=h.imp λν hν=>⟨[],rfl,Ow.one hν⟩
end
section
variable {KY V:Type} {M:MD} {pr:KY×Option Addr->List PV} {D:SD} {gR:V->List PV} {ck:KY->KY->Int} {eL:KY->PV} (hc:kQ ck)
abbrev VI(M:MD)(pr:KY×Option Addr->List PV)(eL:KY->PV)(kk:KY×Option Addr->KY)(ck:KY->KY->Int)(n:FuncId):Prop:=∀ ⦃L:List bk⦄ ⦃μ:Mem⦄ ⦃m:Nat⦄ ⦃l:List (KY×Option Addr)⦄,Ow (cm M pr m l::L) μ->dh ck kk l->l.length<=4000000000000000000->∀(k:KY) ⦃K:Kq⦄,(∀y μ',bI ck kk (kk (k,none)) l=some y->Ow (cm M pr m l::L) μ'->K (.aC [pA y.2,pB true]) μ')->(∀μ',bI ck kk (kk (k,none)) l=none->Ow (cm M pr m l::L) μ'->K (.aC [pA none,pB false]) μ')->ab M.S.P n [pP m 0,eL k] μ K
abbrev aa3(M:MD)(pr:KY×Option Addr->List PV)(eL:KY->PV)(kk:KY×Option Addr->KY)(ck:KY->KY->Int)(n:FuncId):Prop:=∀ ⦃L:List bk⦄ ⦃μ:Mem⦄ ⦃m:Nat⦄ ⦃l:List (KY×Option Addr)⦄,Ow (cm M pr m l::L) μ->dh ck kk l->l.length<=999999998->∀(k:KY) (v:Option Addr) ⦃K:Kq⦄,(∀μ',Ow (cm M pr m (eu ck kk (k,v) l)::L) μ'->K (pB (bI ck kk (kk (k,none)) l).isNone) μ')->ab M.S.P n [pP m 0,eL k,pA v] μ K
theorem VR{kk:KY×Option Addr->KY}(CQ:∀x,kk x=x.1){l:List (KY×Nat×List V)}(h:dh ck key (l.map kv)):dh ck kk (l.map pg):=by
 unfold dh at*
 rw[List.pairwise_map]at*
 refine h.imp λ{a b} MG=>?_
 rw[CQ,CQ];exact MG
include hc
theorem get{kk:KY×Option Addr->KY}(CQ:∀x,kk x=x.1){n:FuncId}(Aj:VI M pr eL kk ck n){m:Nat}{P:List (KY×List V)}{L:List bk}{μ:Mem}(hO:Ow (At M pr D gR m P::L) μ)(hu:dh ck key P)(hl:P.length<=900000000)(k:KY){C:Kq}
  (h1:∀A vs B b μ',P=A++(k,vs)::B->Ow (bp D.TS D.TE D.W b (vs.map gR)::Jk M pr D gR m A k b B::L) μ'->C (.aC [pA (some ⟨b,0,none⟩),pB true]) μ')
  (h0:∀μ',(∀x∈P,x.1≠k)->Ow (At M pr D gR m P::L) μ'->C (.aC [pA none,pB false]) μ'):ab M.S.P n [pP m 0,eL k] μ C:=by
 obtain⟨l,MI⟩:=Ow.ex hO
 obtain⟨el,wR⟩:=Ow.and MI
 clear hO MI
 subst el
 have MJ:Ow (cm M pr m (l.map pg)::(l.map (st D gR)++L)) μ:=wR.nest
 have Ff:=VR CQ hu
 rw[List.length_map]at hl
 have back:∀{ν:Mem},Ow (cm M pr m (l.map pg)::(l.map (st D gR)++L)) ν->Ow (At M pr D gR m (l.map kv)::L) ν:=λ{ν} h=>(Ow.pack (L1:=cm M pr m (l.map pg)::l.map (st D gR)) h).imp λν hν=>⟨l,rfl,hν⟩
 refine Aj MJ Ff (by rw[List.length_map];omega) k (λy μ' hy h2=>?_) (λμ' hy h2=>h0 μ' (λx hx=>?_) (back h2))
 ·obtain⟨hym,hyk⟩:=(oQ hc Ff).1 hy
  obtain⟨z,hz,rfl⟩:=List.mem_map.1 hym
  rw[CQ,CQ]at hyk
  obtain⟨A,B,rfl⟩:=List.append_of_mem hz
  obtain⟨zk,zb,zv⟩:=z
  have hzk:zk=k:=hyk
  subst hzk
  refine h1 (A.map kv) zv (B.map kv) zb μ' (by rw[List.map_append];rfl) ?_
  have h3:Ow (cm M pr m (A.map pg++(zk,some ⟨zb,0,none⟩)::B.map pg)::((A.map (st D gR)++bp D.TS D.TE D.W zb (zv.map gR)::B.map (st D gR))++L)) μ':=by
   rw[List.map_append,List.map_append]at h2;exact h2
  have h4:=Ow.pick (P:=[cm M pr m (A.map pg++(zk,some ⟨zb,0,none⟩)::B.map pg)]) h3
  exact h4.tail λν hν=>(Ow.pack (L1:=cm M pr m (A.map pg++(zk,some ⟨zb,0,none⟩)::B.map pg)::(A.map (st D gR)++B.map (st D gR))) hν).imp λν hν=>⟨A,B,rfl,rfl,hν⟩
 ·obtain⟨z,hz,rfl⟩:=List.mem_map.1 hx
  have:=(de hc).1 hy (pg z) (List.mem_map_of_mem hz)
  rw[CQ,CQ]at this
  exact this
theorem put{kk:KY×Option Addr->KY}(CQ:∀x,kk x=x.1){n:FuncId}(Ia:aa3 M pr eL kk ck n){m b:Nat}{P:List (KY×List V)}{L:List bk}{μ:Mem}(hO:Ow (bp D.TS D.TE D.W b (([]:List V).map gR)::At M pr D gR m P::L) μ)(hu:dh ck key P)(hl:P.length<=900000000)(k:KY)(hk:∀x∈P,x.1≠k){C:Kq}
  (h:∀A B μ',P=A++B->eu ck key (k,([]:List V)) P=A++(k,[])::B->Ow (bp D.TS D.TE D.W b (([]:List V).map gR)::Jk M pr D gR m A k b B::L) μ'->C (pB true) μ'):ab M.S.P n [pP m 0,eL k,pA (some ⟨b,0,none⟩)] μ C:=by
 obtain⟨l,MI⟩:=Ow.ex hO.swap
 obtain⟨el,wR⟩:=Ow.and MI
 clear hO MI
 subst el
 have MJ:Ow (cm M pr m (l.map pg)::(l.map (st D gR)++(bp D.TS D.TE D.W b (([]:List V).map gR)::L))) μ:=wR.nest
 have Ff:=VR CQ hu
 rw[List.length_map]at hl
 have hn:bI ck kk (kk (k,none)) (l.map pg)=none:=(de hc).2 λy hy=>by
  obtain⟨z,hz,rfl⟩:=List.mem_map.1 hy
  rw[CQ,CQ]
  exact hk (kv z) (List.mem_map_of_mem hz)
 refine Ia MJ Ff (by rw[List.length_map];omega) k _ λμ' h2=>?_
 rw[hn]
 let Ae:KY×Nat×List V->KY:=λx=>x.1
 let pA2:=l.filter (CG ck Ae k)
 let pB2:=l.filter (Il ck Ae k)
 have Mo:dh ck Ae l:=by
  unfold dh at*
  rw[List.pairwise_map]at hu
  exact hu
 have hn2:∀x∈l,Ae x≠k:=λx hx=>hk (kv x) (List.mem_map_of_mem hx)
 have apy:bI ck Ae k l=none:=(de hc).2 hn2
 have hi:eu ck Ae (k,b,([]:List V)) l=pA2++(k,b,[])::pB2:=rfl
 have Qg:l=pA2++pB2:=by
  refine dh.ext hc Mo ?_ λx=>?_
  ·have h3:=Mo.ins hc (k,b,([]:List V))
   rw[hi]at h3
   unfold dh at*
   rw[List.pairwise_append]at h3 |-
   refine⟨h3.1,(List.pairwise_cons.1 h3.2.1).2,λa ha c jN=>h3.2.2 a ha c (List.mem_cons_of_mem _ jN)⟩
  ·simp only[pA2,pB2,List.mem_append,List.mem_filter,CG,Il,decide_eq_true_eq]
   constructor
   ·intro hx
    have bm:=hn2 x hx
    have h0:ck (Ae x) k≠0:=λe=>bm ((hc.zero _ _).1 e)
    rcases Int.lt_or_lt_of_ne h0 with h1|h1
    ·exact .inl ⟨hx,h1⟩
    ·exact .inr ⟨hx,h1⟩
   ·rintro(h1|h1)<;>exact h1.1
 have ad3:eu ck key (k,([]:List V)) (l.map kv)=(pA2.map kv)++(k,[])::(pB2.map kv):=by
  have:=E_ (ck:=ck) (key:=key) (f:=kv) (L:=l) (x:=(k,b,([]:List V)))
  have e1:eu ck (λx=>key (kv x)) (k,b,([]:List V)) l=pA2++(k,b,[])::pB2:=rfl
  rw[e1,List.map_append]at this
  exact this
 have ad4:eu ck kk (k,some ⟨b,0,none⟩) (l.map pg)=(pA2.map pg)++(k,some ⟨b,0,none⟩)::(pB2.map pg):=by
  have:=E_ (ck:=ck) (key:=kk) (f:=pg) (L:=l) (x:=(k,b,([]:List V)))
  have e0:(λx:KY×Nat×List V=>kk (pg x))=Ae:=funext λx=>CQ _
  rw[e0,hi,List.map_append]at this
  exact this
 refine h (pA2.map kv) (pB2.map kv) μ' (by rw[<- List.map_append,<- Qg]) ad3 ?_
 rw[ad4]at h2
 have e2:l.map (st D gR)=pA2.map (st D gR)++pB2.map (st D gR):=by rw[<- List.map_append,<- Qg]
 rw[e2]at h2
 have h3:Ow (bp D.TS D.TE D.W b (([]:List V).map gR)::cm M pr m (pA2.map pg++(k,some ⟨b,0,none⟩)::pB2.map pg)::((pA2.map (st D gR)++pB2.map (st D gR))++L)) μ':=
  Ow.nq (L1:=cm M pr m (pA2.map pg++(k,some ⟨b,0,none⟩)::pB2.map pg)::(pA2.map (st D gR)++pB2.map (st D gR))) h2
 exact h3.tail λν hν=>(Ow.pack (L1:=cm M pr m (pA2.map pg++(k,some ⟨b,0,none⟩)::pB2.map pg)::(pA2.map (st D gR)++pB2.map (st D gR))) hν).imp λν hν=>⟨pA2,pB2,rfl,rfl,hν⟩
end
end MM
theorem bp.ac_{Ts e:TypeId}{sz b:Nat}{p:PV}{rows:Lq}{L:List bk}{μ:Mem}(h:Ow (Pt b Ts [p,pB false]::jD e sz p rows::L) μ)(he:∀r∈rows,r.length=sz)(hc:aE rows.flatten=true):Ow (bp Ts e sz b rows::L) μ:=by
 refine(Ow.pack (L1:=[Pt b Ts [p,pB false],jD e sz p rows]) h).imp λν hν=>?_
 obtain⟨ν1,ν2,hs,rfl,hP,ν3,ν4,HZ,rfl,⟨F,hF⟩,_⟩:=hν
 rcases hF with⟨rfl,rfl,rfl⟩|⟨b',c,rest,rfl,rfl,h2,h3,h4⟩
 ·exact⟨[b],⟨he,hc,.inr (.inr (.inl ⟨rfl,rfl,Mem.aX hP⟩))⟩⟩
 ·have iC:ν1 b=some (.cells Ts [.raw (.slice (some ⟨b',0,none⟩) rows.length c),pB false]):=hP
  have h5:(ν3.or ν4) b'=some (.cells e (rows.flatten++rest)):=Mem.aX h2
  have bm:b'≠b:=by
   rintro rfl
   rcases hs b' with h6|h6
   ·rw[iC]at h6;cases h6
   ·rw[h5]at h6;cases h6
  have h7:ν1 b'=none:=(hs b').resolve_right (by rw[h5];simp)
  exact⟨[b,b'],⟨he,hc,.inr (.inr (.inr ⟨b',c,rest,rfl,bm,Mem.aX iC,by rw[Mem.bg h7];exact h5,h3,h4⟩))⟩⟩
end Go.az
namespace Go.Proofs.YtbkejjmjopgpoaaGreat
open Go.Proofs.Tryz Go.az Go.RowKit
structure o_(es:List av)(P:List (Sym×List Sym)):Prop where
 up:dh aJ MM.key P
 ups:∀x∈P,dh aJ KS.key x.2
 iff:∀k v,(∃x∈P,x.1=k/\v∈x.2)↔∃e∈es,e.id=k/\e.value=v
 one:∀e∈es,∃x∈P,x.1=e.id
 le:P.length<=es.length
 les:∀x∈P,x.2.length<=es.length
theorem o_.nil:o_ [] []:=⟨List.Pairwise.nil,by simp,by simp,by simp,by simp,by simp⟩
abbrev lh(m:Nat)(P:List (Sym×List Sym)):bk:=MM.At SS.M SS.pv KS.D KS.pv m P
abbrev zC(m:Nat)(A:List (Sym×List Sym))(k:Sym)(b:Nat)(B:List (Sym×List Sym)):bk:=MM.Jk SS.M SS.pv KS.D KS.pv m A k b B
def InW(P:List (Sym×List Sym))(k:Sym)(A:List (Sym×List Sym))(vs:List Sym)(B:List (Sym×List Sym)):Prop:=
 P=A++(k,vs)::B\/(vs=[]/\P=A++B/\(∀x∈P,x.1≠k)/\eu aJ MM.key (k,[]) P=A++(k,[])::B)
theorem iJ{x y:Sym}{l:List Sym}:y∈bC aJ KS.key x l↔y=x\/y∈l:=by
 unfold bC
 split
 ·rename_i h
  constructor
  ·exact .inr
  ·rintro(rfl|h2)
   ·cases hg:bI aJ KS.key (KS.key y) l with
    |none=>rw[hg]at h;cases h
    |some z=>
     have h3:=List.mem_of_find?_eq_some hg
     have h4:=List.find?_some hg
     have h5:aJ (KS.key z) (KS.key y)=0:=by simpa[FR]using h4
     have:z=y:=(aF.zero _ _).1 h5
     rw[<- this];exact h3
   ·exact h2
 ·rename_i h
  rw[cF aF]
  constructor
  ·rintro(h1|h1)
   ·exact .inl h1
   ·exact .inr h1.1
  ·rintro(h1|h1)
   ·exact .inl h1
   ·by_cases e:y=x
    ·exact .inl e
    ·exact .inr ⟨h1,e⟩
theorem o_.add{es:List av}{P A B:List (Sym×List Sym)}{e:av}{vs:List Sym}(h:o_ es P)(hi:InW P e.id A vs B):dh aJ KS.key vs/\vs.length<=es.length/\o_ (es++[e]) (A++(e.id,bC aJ KS.key e.value vs)::B):=by
 have Ff:dh aJ MM.key (A++(e.id,vs)::B):=by
  rcases hi with rfl|⟨rfl,h2,h3,h4⟩
  ·exact h.up
  ·rw[<- h4];exact h.up.ins aF _
 have vc:dh aJ KS.key vs/\vs.length<=es.length:=by
  rcases hi with rfl|⟨rfl,_⟩
  ·exact⟨h.ups (e.id,vs) (by simp),h.les (e.id,vs) (by simp)⟩
  ·exact⟨List.Pairwise.nil,by simp⟩
 have hAB:∀x,x∈A\/x∈B->x∈P:=λx hx=>by
  rcases hi with rfl|⟨rfl,rfl,_⟩
  ·simp only[List.mem_append,List.mem_cons];exact hx.imp id .inr
  ·simp only[List.mem_append];exact hx
 have bm:∀x,x∈A\/x∈B->x.1≠e.id:=λx hx hk=>by
  unfold dh at Ff
  rw[List.pairwise_append]at Ff
  rcases hx with hx|hx
  ·have:=Ff.2.2 x hx (e.id,vs) (by simp)
   rw[show MM.key x=x.1 from rfl,hk]at this
   have h0:aJ e.id e.id=0:=(aF.zero _ _).2 rfl
   rw[show MM.key (e.id,vs)=e.id from rfl]at this
   omega
  ·have:=(List.pairwise_cons.1 Ff.2.1).1 x hx
   rw[show MM.key x=x.1 from rfl,hk]at this
   have h0:aJ e.id e.id=0:=(aF.zero _ _).2 rfl
   rw[show MM.key (e.id,vs)=e.id from rfl]at this
   omega
 have hold:∀v,v∈vs↔∃e'∈es,e'.id=e.id/\e'.value=v:=λv=>by
  rw[<- h.iff]
  constructor
  ·intro hv
   rcases hi with rfl|⟨rfl,_⟩
   ·exact⟨(e.id,vs),by simp,rfl,hv⟩
   ·cases hv
  ·rintro⟨x,hx,hk,hv⟩
   rcases hi with rfl|⟨rfl,h2,h3,_⟩
   ·simp only[List.mem_append,List.mem_cons]at hx
    rcases hx with hx|rfl|hx
    ·exact absurd hk (bm x (.inl hx))
    ·exact hv
    ·exact absurd hk (bm x (.inr hx))
   ·exact absurd hk (h3 x hx)
 have adQ:∀k v,k≠e.id->((∃x,(x∈A\/x∈B)/\x.1=k/\v∈x.2)↔∃e'∈es,e'.id=k/\e'.value=v):=λk v hk=>by
  rw[<- h.iff]
  constructor
  ·rintro⟨x,hx,h1,h2⟩;exact⟨x,hAB x hx,h1,h2⟩
  ·rintro⟨x,hx,h1,h2⟩
   refine⟨x,?_,h1,h2⟩
   rcases hi with rfl|⟨rfl,rfl,_⟩
   ·simp only[List.mem_append,List.mem_cons]at hx
    rcases hx with hx|rfl|hx
    ·exact .inl hx
    ·exact absurd h1.symm hk
    ·exact .inr hx
   ·simpa using hx
 have hlen:A.length+B.length<=es.length/\(A++(e.id,bC aJ KS.key e.value vs)::B).length<=es.length+1:=by
  have:=h.le
  rcases hi with rfl|⟨rfl,rfl,_⟩<;>simp only[List.length_append,List.length_cons]at this |- <;>omega
 refine⟨vc.1,vc.2,?_,λx hx=>?_,λk v=>?_,λe' zQ=>?_,by rw[show(es++[e]).length=es.length+1 by simp];exact hlen.2,λx hx=>?_⟩
 ·unfold dh at*
  rw[List.pairwise_append,List.pairwise_cons]at Ff |-
  exact⟨Ff.1,⟨Ff.2.1.1,Ff.2.1.2⟩,λa ha b hb=>by
   rcases List.mem_cons.1 hb with rfl|hb
   ·exact Ff.2.2 a ha (e.id,vs) (by simp)
   ·exact Ff.2.2 a ha b (by simp[hb])⟩
 ·simp only[List.mem_append,List.mem_cons]at hx
  rcases hx with hx|rfl|hx
  ·exact h.ups x (hAB x (.inl hx))
  ·exact vc.1.put aF _
  ·exact h.ups x (hAB x (.inr hx))
 ·by_cases hk:k=e.id
  ·subst hk
   constructor
   ·rintro⟨x,hx,h1,h2⟩
    simp only[List.mem_append,List.mem_cons]at hx
    rcases hx with hx|rfl|hx
    ·exact absurd h1 (bm x (.inl hx))
    ·rcases iJ.1 h2 with rfl|h2
     ·exact⟨e,by simp,rfl,rfl⟩
     ·obtain⟨e',zQ,h3,h4⟩:=(hold v).1 h2
      exact⟨e',by simp[zQ],h3,h4⟩
    ·exact absurd h1 (bm x (.inr hx))
   ·rintro⟨e',zQ,h1,h2⟩
    refine⟨(e.id,bC aJ KS.key e.value vs),by simp,rfl,iJ.2 ?_⟩
    simp only[List.mem_append,List.mem_singleton]at zQ
    rcases zQ with zQ|rfl
    ·exact .inr ((hold v).2 ⟨e',zQ,h1,h2⟩)
    ·exact .inl h2.symm
  ·have h1:=adQ k v hk
   constructor
   ·rintro⟨x,hx,h2,h3⟩
    simp only[List.mem_append,List.mem_cons]at hx
    have xt:x∈A\/x∈B:=by
     rcases hx with hx|rfl|hx
     ·exact .inl hx
     ·exact absurd h2.symm hk
     ·exact .inr hx
    obtain⟨e',zQ,h4,h5⟩:=h1.1 ⟨x,xt,h2,h3⟩
    exact⟨e',by simp[zQ],h4,h5⟩
   ·rintro⟨e',zQ,h4,h5⟩
    simp only[List.mem_append,List.mem_singleton]at zQ
    rcases zQ with zQ|rfl
    ·obtain⟨x,hx,h6,h7⟩:=h1.2 ⟨e',zQ,h4,h5⟩
     exact⟨x,by simp only[List.mem_append,List.mem_cons];exact hx.imp id .inr,h6,h7⟩
    ·exact absurd h4.symm hk
 ·simp only[List.mem_append,List.mem_singleton]at zQ
  rcases zQ with zQ|rfl
  ·obtain⟨x,hx,hk⟩:=h.one e' zQ
   by_cases h1:e'.id=e.id
   ·exact⟨(e.id,bC aJ KS.key e.value vs),by simp,h1.symm⟩
   ·rcases hi with rfl|⟨rfl,rfl,_⟩
    ·simp only[List.mem_append,List.mem_cons]at hx
     rcases hx with hx|rfl|hx
     ·exact⟨x,by simp[hx],hk⟩
     ·exact absurd hk.symm h1
     ·exact⟨x,by simp[hx],hk⟩
    ·simp only[List.mem_append]at hx
     exact⟨x,by simp only[List.mem_append,List.mem_cons];exact hx.imp id .inr,hk⟩
  ·exact⟨(e'.id,bC aJ KS.key e'.value vs),by simp,rfl⟩
 ·rw[List.length_append]
  simp only[List.mem_append,List.mem_cons]at hx
  rcases hx with hx|rfl|hx
  ·exact Nat.le_trans (h.les x (hAB x (.inl hx))) (by simp)
  ·exact Nat.le_trans Ex (by simp;exact vc.2)
  ·exact Nat.le_trans (h.les x (hAB x (.inr hx))) (by simp)
theorem aeK{fn:Fn}{fa fb:List PV}{es:List av}{A A':bk}(hs:jY prog (.fn fn fa fb) (es.map λe=>[.agg e.pv]) A A')(hl:es.length<=1000000){L:List bk}{μ:Mem}(hO:Ow (A::L) μ){K:Kq}
  (hk:∀m P μ',o_ es P->Ow (lh m P::A'::L) μ'->K (pP m 0) μ'):ab prog 81 [.fn fn fa fb] μ K:=by
 refine Dz.c ?_
 refine SS.Ru hO λu m h1=>⟨_,rfl,λb3 Zz=>?_⟩
 have O1:=h1.new 147 [pA none] Zz
 refine O1.st 0 rfl (by simp) λu2 h2=>?_
 have GH:Ow (A::Pt b3 147 [pP m 0]::lh m []::L) u2:=Ow.ord [2,0,0] (Ow.tail h2 λ_ h=>MM.At.nil h)
 have hln:(es.map λe=>[PV.agg e.pv]).length=es.length:=by simp
 refine bJ.own hs GH (λk u=>∃P,o_ (es.take k) P/\Ow (Pt b3 147 [pP m 0]::lh m P::A'::L) u) (λ_ _=>False) (λk=>eG.ex λP=>eG.and (eG.own _)) (λ_ _ _ _ h=>h.elim) (λμ' h=>⟨[],o_.nil,Ow.ord [1,1,0] h⟩) ?_ ?_ (λ_ _ h=>h.elim)
 ·rintro k qw u R ⟨P,hP,h3⟩ dF _
  have eQ:k<es.length:=by simpa using qw
  have hPl:=hP.le
  have Wk:(es.take k).length<=es.length:=by rw[List.length_take];omega
  rw[List.getElem_map]
  refine⟨_,_,_,_,_,_,_,_,_,_,_,_,rfl,_,h3.rd 0 rfl (by simp),?_⟩
  have fin:∀s u',(∃Aa vs Bb b,s=some ⟨b,0,none⟩/\InW P es[k].id Aa vs Bb/\Ow (bp KS.D.TS KS.D.TE KS.D.W b (vs.map KS.pv)::zC m Aa es[k].id b Bb::Pt b3 147 [pP m 0]::A'::L) u')->
    ab prog 31 [pA s,.agg es[k].value.pv] u' λXF u_9=>∃x31,XF=(pB x31)/\R none u_9:=by
   rintro s u' ⟨Aa,vs,Bb,b,rfl,hi,h4⟩
   obtain⟨q1,q2,q3⟩:=hP.add hi
   refine KS.f_ (l:=vs) h4 q1 (by omega) es[k].value λu5 h5=>⟨_,rfl,dF u5 ⟨Aa++(es[k].id,bC aJ KS.key es[k].value vs)::Bb,?_,?_⟩⟩
   ·rw[List.take_add_one,List.getElem?_eq_getElem eQ];exact q3
   ·have h6:=MM.Jk.rD (vs:=bC aJ KS.key es[k].value vs) h5
    exact h6.swap
  refine MM.get (M:=SS.M) (pr:=SS.pv) (D:=KS.D) (gR:=KS.pv) aF (kk:=SS.key) (λ_=>rfl) SS.tV h3.swap hP.up (by omega) es[k].id (λAa vs Bb b u5 he h5=>⟨_,_,rfl,_,ae.f rfl ?_,fin⟩) (λu5 hn h5=>⟨_,_,rfl,_,ae.t rfl ?_,fin⟩)
  ·exact⟨Aa,vs,Bb,b,rfl,.inl he,h5⟩
  ·refine KS.gX h5 .nil [] (by simp) λu6 b h6=>⟨_,rfl,_,h6.rd 2 rfl (by simp),?_⟩
   refine MM.put (M:=SS.M) (pr:=SS.pv) (D:=KS.D) (gR:=KS.pv) aF (kk:=SS.key) (λ_=>rfl) SS.zg h6 hP.up (by omega) es[k].id hn λAa Bb u7 e1 e2 h7=>⟨_,rfl,Aa,[],Bb,b,rfl,.inr ⟨rfl,e1,hn,e2⟩,h7⟩
 ·rintro u ⟨P,hP,h3⟩
  rw[hln,List.take_length]at hP
  dsimp only[PK]
  exact⟨_,h3.rd 0 rfl (by simp),hk m P u hP h3.drop⟩
theorem AI{l:List Sym}(h:dh aJ KS.key l):l.Nodup:=by
 unfold dh at h
 refine h.imp λ{a b} MG=>?_
 rintro rfl
 have:aJ a a=0:=(aF.zero _ _).2 rfl
 rw[show KS.key a=a from rfl]at MG
 omega
theorem ZM{l:List Sym}{x:Sym}:(bI aJ KS.key x l).isNone=true↔x∉l:=by
 cases hg:bI aJ KS.key x l with
 |none=>
  have:=(de (key:=KS.key) aF).1 hg
  simp only[Option.isNone_none,true_iff]
  exact λhx=>this x hx rfl
 |some z=>
  have h3:=List.mem_of_find?_eq_some hg
  have h4:=List.find?_some hg
  have h5:aJ (KS.key z) x=0:=by simpa[FR]using h4
  have:z=x:=(aF.zero _ _).1 h5
  subst this
  simp[h3]
theorem Pd{l:List Sym}{x:Sym}(h:x∉l):(bC aJ KS.key x l).length=l.length+1:=by
 have hg:bI aJ KS.key (KS.key x) l=none:=(de (key:=KS.key) aF).2 λy hy e=>h (by rw[<- show y=x from e];exact hy)
 unfold bC
 rw[hg,if_neg (by simp),(Bm aF (x:=x) hg).length_eq,List.length_cons]
theorem aeC(gs:List Sym):∀{l:List Sym},dh aJ KS.key l->dh aJ KS.key (gs.foldl (λl x=>bC aJ KS.key x l) l)/\∀y,y∈gs.foldl (λl x=>bC aJ KS.key x l) l↔y∈l\/y∈gs:=by
 induction gs with
 |nil=>intro l h;exact⟨h,λy=>by simp⟩
 |cons g gs ih=>
  intro l h
  obtain⟨h1,h2⟩:=ih (h.put aF g)
  refine⟨h1,λy=>(h2 y).trans ?_⟩
  rw[iJ,List.mem_cons]
  constructor
  ·rintro((h|h)|h)
   ·exact .inr (.inl h)
   ·exact .inl h
   ·exact .inr (.inr h)
  ·rintro(h|h|h)
   ·exact .inl (.inr h)
   ·exact .inl (.inl h)
   ·exact .inr h
def TX(gs:List Sym)(k:Nat)(s:Sym)(n:Int):Prop:=∃j:Nat,j<k/\gs[j]?=some s/\(∀i:Nat,i<j->gs[i]?≠some s)/\n=(j:Int)+1
section
variable {gs:List Sym} {es:List av}
theorem CC{k i:Nat}{s:Sym}(hi:i<k)(h:gs[i]?=some s):s∈gs.take k:=by
 refine List.mem_iff_getElem?.2 ⟨i,?_⟩
 rw[List.getElem?_take_of_lt hi];exact h
theorem YO{k:Nat}(hk:k<gs.length)(hn:gs[k]∉gs.take k):TX gs (k+1) gs[k] ((k:Int)+1):=
 ⟨k,by omega,List.getElem?_eq_getElem hk,λi hi h=>hn (CC hi h),rfl⟩
theorem PH{k:Nat}{s:Sym}{n:Int}(h:TX gs k s n):TX gs (k+1) s n:=by
 obtain⟨j,h1,h2⟩:=h
 exact⟨j,by omega,h2⟩
theorem ET{k:Nat}(hk:k<gs.length){s:Sym}{n:Int}(h:TX gs (k+1) s n):TX gs k s n\/(s=gs[k]/\n=(k:Int)+1/\gs[k]∉gs.take k):=by
 obtain⟨j,h1,h2,h3,rfl⟩:=h
 by_cases e:j=k
 ·subst e
  rw[List.getElem?_eq_getElem hk,Option.some.injEq]at h2
  subst h2
  refine .inr ⟨rfl,rfl,λhm=>?_⟩
  obtain⟨i,hi⟩:=List.mem_iff_getElem?.1 hm
  rw[List.getElem?_take]at hi
  split at hi
  ·rename_i oO;exact h3 i oO hi
  ·cases hi
 ·exact .inl ⟨j,by omega,h2,h3,rfl⟩
theorem CE{k:Nat}{s:Sym}{n:Int}(h:TX gs k s n):s∈gs.take k:=by
 obtain⟨j,h1,h2,_⟩:=h
 exact CC h1 h2
structure Nx(gs:List Sym)(k:Nat)(lv:List (Sym×Int)):Prop where
 up:dh aJ SI.key lv
 iff:∀s n,(s,n)∈lv↔TX gs k s n
 all:∀s∈gs.take k,∃n,(s,n)∈lv
theorem PG{lv:List (Sym×Int)}(h:dh aJ SI.key lv){M:List Sym}(hm:∀x∈lv,x.1∈M):lv.length<=M.length:=by
 classical
 have hn:(lv.map λx=>x.1).Nodup:=by
  unfold dh at h
  rw[List.Nodup,List.pairwise_map]
  refine h.imp λ{a b} MG=>?_
  intro e
  have:aJ a.1 b.1=0:=(aF.zero _ _).2 e
  rw[show SI.key a=a.1 from rfl,show SI.key b=b.1 from rfl]at MG
  omega
 have:=EJ hn (m:=M) λs hs=>by
  obtain⟨x,hx,rfl⟩:=List.mem_map.1 hs
  exact hm x hx
 simpa using this
theorem Nx.nil:Nx gs 0 []:=⟨List.Pairwise.nil,λs n=>by
 constructor
 ·intro h;cases h
 ·rintro⟨j,h,_⟩;omega,by simp⟩
theorem Nx.len{k:Nat}{lv:List (Sym×Int)}(h:Nx gs k lv):lv.length<=gs.length:=PG h.up λx hx=>List.mem_of_mem_take (CE ((h.iff x.1 x.2).1 hx))
theorem Nx.there{k:Nat}{lv:List (Sym×Int)}(h:Nx gs k lv)(hk:k<gs.length){n:Int}(hm:(gs[k],n)∈lv):Nx gs (k+1) lv:=by
 have gp:=CE ((h.iff _ _).1 hm)
 refine⟨h.up,λs n=>?_,λs hs=>?_⟩
 ·rw[h.iff]
  constructor
  ·exact PH
  ·intro h1
   rcases ET hk h1 with h1|⟨_,_,h1⟩
   ·exact h1
   ·exact absurd gp h1
 ·rw[List.take_add_one,List.getElem?_eq_getElem hk,List.mem_append]at hs
  rcases hs with hs|hs
  ·exact h.all s hs
  ·simp only[Option.toList_some,List.mem_singleton]at hs
   subst hs;exact⟨n,hm⟩
theorem Nx.new{k:Nat}{lv:List (Sym×Int)}(h:Nx gs k lv)(hk:k<gs.length)(hn:∀x∈lv,x.1≠gs[k]):Nx gs (k+1) (eu aJ SI.key (gs[k],(k:Int)+1) lv):=by
 have Qm:gs[k]∉gs.take k:=λhm=>by
  obtain⟨n,hx⟩:=h.all _ hm
  exact hn _ hx rfl
 refine⟨h.up.ins aF _,λs n=>?_,λs hs=>?_⟩
 ·rw[cF aF]
  constructor
  ·rintro(h1|⟨h1,_⟩)
   ·simp only[Prod.mk.injEq]at h1
    obtain⟨rfl,rfl⟩:=h1
    exact YO hk Qm
   ·exact PH ((h.iff _ _).1 h1)
  ·intro h1
   rcases ET hk h1 with h1|⟨rfl,rfl,_⟩
   ·have:=(h.iff _ _).2 h1
    exact .inr ⟨this,hn _ this⟩
   ·exact .inl rfl
 ·rw[List.take_add_one,List.getElem?_eq_getElem hk,List.mem_append]at hs
  rcases hs with hs|hs
  ·obtain⟨n,hx⟩:=h.all s hs
   exact⟨n,(cF aF).2 (.inr ⟨hx,hn _ hx⟩)⟩
  ·simp only[Option.toList_some,List.mem_singleton]at hs
   subst hs;exact⟨_,(cF aF).2 (.inl rfl)⟩
structure Sg(gs:List Sym)(lv:List (Sym×Int))(K:List Sym):Prop where
 up:dh aJ SI.key lv
 upK:dh aJ KS.key K
 keys:∀s,(∃n,(s,n)∈lv)↔s∈K
 pos:∀x∈lv,1<=x.2
 goals:∀s n,s∈gs->(s,n)∈lv->TX gs gs.length s n
theorem Sg.len{lv:List (Sym×Int)}{K:List Sym}(h:Sg gs lv K):lv.length<=K.length:=PG h.up λx hx=>(h.keys x.1).1 ⟨x.2,hx⟩
theorem Sg.start{lv:List (Sym×Int)}(h:Nx gs gs.length lv){K:List Sym}(hu:dh aJ KS.key K)(hK:∀s,s∈K↔s∈gs):Sg gs lv K:=
 ⟨h.up,hu,λs=>by
  rw[hK]
  constructor
  ·rintro⟨n,hn⟩
   have:=CE ((h.iff s n).1 hn)
   rw[List.take_length]at this;exact this
  ·intro hs
   exact h.all s (by rw[List.take_length];exact hs),λx hx=>by
  obtain⟨j,_,_,_,e⟩:=(h.iff x.1 x.2).1 hx
  omega,λs n _ hn=>(h.iff s n).1 hn⟩
theorem Sg.add{lv:List (Sym×Int)}{K:List Sym}(h:Sg gs lv K){v:Sym}(hv:v∉K)(hg:∀g∈gs,g∈K){n:Int}(hn:1<=n):Sg gs (eu aJ SI.key (v,n) lv) (bC aJ KS.key v K):=by
 refine⟨h.up.ins aF _,h.upK.put aF _,λs=>?_,λx hx=>?_,λs m hs hm=>?_⟩
 ·rw[iJ,<- h.keys]
  constructor
  ·rintro⟨m,hm⟩
   rcases(cF aF).1 hm with hm|⟨hm,_⟩
   ·simp only[Prod.mk.injEq]at hm;exact .inl hm.1
   ·exact .inr ⟨m,hm⟩
  ·rintro(rfl|⟨m,hm⟩)
   ·exact⟨n,(cF aF).2 (.inl rfl)⟩
   ·refine⟨m,(cF aF).2 (.inr ⟨hm,λe=>hv ?_⟩)⟩
    exact(h.keys v).1 ⟨m,by rw[<- show s=v from e];exact hm⟩
 ·rcases(cF aF).1 hx with rfl|⟨hx,_⟩
  ·exact hn
  ·exact h.pos x hx
 ·rcases(cF aF).1 hm with hm|⟨hm,_⟩
  ·simp only[Prod.mk.injEq]at hm
   exact absurd (hg s hs) (by rw[hm.1];exact hv)
  ·exact h.goals s m hs hm
structure Nw(gs:List Sym)(es:List av)(lv:List (Sym×Int)):Prop where
 up:dh aJ SI.key lv
 iff:∀s,(∃n,(s,n)∈lv)↔pe gs es s
 pos:∀x∈lv,1<=x.2
 le:lv.length<=gs.length+es.length
theorem Nw.get{lv:List (Sym×Int)}(h:Nw gs es lv)(s:Sym):(bI aJ SI.key s lv).isSome=true↔pe gs es s:=by
 rw[<- h.iff]
 cases hg:bI aJ SI.key s lv with
 |none=>
  have:=(de (key:=SI.key) aF).1 hg
  simp only[Option.isSome_none,Bool.false_eq_true,false_iff]
  rintro⟨n,hn⟩
  exact this _ hn rfl
 |some y=>
  obtain⟨h1,h2⟩:=(oQ aF h.up).1 hg
  simp only[Option.isSome_some,true_iff]
  exact⟨y.2,by rw[<- show y.1=s from h2];exact h1⟩
end
theorem OE{l:List Sym}{k:Nat}(hk:k<l.length):(l.map Sym.pv)[Int.toNat (k:Int)]?=some l[k].pv:=aI hk
section
variable {fn:Fn} {fa fb:List PV} {gs:List Sym} {es:List av} {A A':bk}
theorem Vc(fl:Fl)(hs:jY prog (.fn fn fa fb) (es.map λe=>[.agg e.pv]) A A')(hg:gs.length<=100000)(he:es.length<=100000){L:List bk}{μ:Mem}(hO:Ow (A::L) μ){K:Kq}
  (hk:∀lm lv μ',Nw gs es lv->Ow (SI.DM lm lv::A'::L) μ'->K (pP lm 0) μ'):ab prog 34 [.list 3 fl (gs.map Sym.pv),.fn fn fa fb] μ K:=by
 refine zH.c ?_
 refine SI.Ru hO λu lm h1=>⟨_,rfl,λb5 Sv=>?_⟩
 refine(h1.new 94 [pA none] Sv).st 0 rfl (by simp) λu2 h2=>?_
 have GH:Ow (Pt b5 94 [pP lm 0]::SI.DM lm []::A::L) u2:=h2
 rw[List.length_map]
 refine aj.each (n:=gs.length) (by omega) (λk u=>∃lv,Nx gs k lv/\Ow (Pt b5 94 [pP lm 0]::SI.DM lm lv::A::L) u) ⟨[],Nx.nil,GH⟩ ?_ ?_
 ·rintro k u3 next bP ⟨lv,Fj,h3⟩ ar
  have hlen:=Fj.len
  refine ae.t (by simpa using bP) ⟨by omega,_,OE bP,_,_,_,rfl,_,h3.rd 0 rfl (by simp),?_⟩
  refine SI.tV (l:=lv) h3.swap Fj.up (by omega) gs[k] (λy u4 hy h4=>⟨_,_,rfl,ae.f rfl ?_⟩) (λu4 hy h4=>⟨_,_,rfl,ae.t rfl ?_⟩)
  ·obtain⟨Kt,Qd⟩:=(oQ aF Fj.up).1 hy
   have hy3:y.1=gs[k]:=Qd
   exact ar _ ⟨lv,Fj.there bP (n:=y.2) (by rw[<- hy3];exact Kt),h4.swap⟩
  ·have hn:=(de (key:=SI.key) aF).1 hy
   have h4':=h4.swap
   refine⟨_,h4'.rd 0 rfl (by simp),?_⟩
   have ew:IntKind.wrap .i64 ((k:Int)+1)=(k:Int)+1:=aB (by omega) (by omega)
   rw[ew]at ar |-
   refine SI.zg (l:=lv) h4 Fj.up (by omega) gs[k] ((k:Int)+1) λu5 h5=>⟨_,rfl,ar _ ⟨_,Fj.new bP hn,h5.swap⟩⟩
 ·rintro u3 next ⟨lv,Fj,h3⟩
  refine ae.f (by simp) ?_
  refine aeK hs (by omega) (Ow.ord [2] h3) λwm P u4 hP h4=>⟨_,rfl,?_⟩
  refine KS.gX h4 fl gs (by omega) λu5 sn h5=>⟨_,rfl,λNg alr=>?_⟩
  refine(h5.new 87 [pA none] alr).st 0 rfl (by simp) λu6 h6=>?_
  obtain⟨hS1,hS2⟩:=aeC gs (l:=[]) List.Pairwise.nil
  have hS3:∀s,s∈gs.foldl (λl x=>bC aJ KS.key x l) []↔s∈gs:=λs=>by rw[hS2];simp
  have aem:=Sg.start Fj hS1 hS3
  have hB0:eU gs es 0 (gs.foldl (λl x=>bC aJ KS.key x l) []) [] λ_=>False:=eU.start (λs hs=>(hS3 s).1 hs) (λg hg=>(hS3 g).2 hg) (AI hS1)
  have ZH:Ow (Pt Ng 87 [pP sn 0]::KS.At sn (gs.foldl (λl x=>bC aJ KS.key x l) [])::lh wm P::Pt b5 94 [pP lm 0]::SI.DM lm lv::A'::L) u6:=Ow.ord [0,0,0,1,1] h6
  refine aj.each (n:=gs.length) (by omega) (λi u=>∃K lv,Sg gs lv K/\eU gs es i K [] (λ_=>False)/\Ow (Pt Ng 87 [pP sn 0]::KS.At sn K::lh wm P::Pt b5 94 [pP lm 0]::SI.DM lm lv::A'::L) u) ⟨_,lv,aem,hB0,ZH⟩ ?_ ?_
  ·clear h3 h6 ZH hB0 aem Fj h5 h4 h2 GH
   rintro i u7 next hi ⟨K1,lv,DJ,hB,h7⟩ ar
   have hKl:=hB.len
   have xu:=DJ.len
   refine ae.t (by simpa using hi) ⟨by omega,_,OE hi,_,_,_,rfl,λRM alq=>?_⟩
   refine(h7.new 3 [pI 0] alq).st 0 rfl (by simp) λu8 h8=>?_
   have h8':Ow (Pt RM 3 [pI ((i:Nat):Int)]::Pt Ng 87 [pP sn 0]::KS.At sn K1::lh wm P::Pt b5 94 [pP lm 0]::SI.DM lm lv::A'::L) u8:=h8
   refine⟨_,h8'.rd 4 rfl (by simp),?_⟩
   have hgK:gs[i]∈K1:=hB.gl _ (List.getElem_mem hi)
   obtain⟨n0,wu⟩:=(DJ.keys _).2 hgK
   refine SI.tV (l:=lv) (Ow.ord [5] h8') DJ.up (by omega) gs[i] (λy u9 hy h9=>⟨_,_,rfl,?_⟩) (λu9 hy h9=>((de (key:=SI.key) aF).1 hy (gs[i],n0) wu rfl).elim)
   obtain⟨Kt,Qd⟩:=(oQ aF DJ.up).1 hy
   have hy3:y.1=gs[i]:=Qd
   have hyg:TX gs gs.length gs[i] y.2:=DJ.goals _ _ (List.getElem_mem hi) (by rw[<- hy3];exact Kt)
   have h9':Ow (Pt RM 3 [pI ((i:Nat):Int)]::Pt Ng 87 [pP sn 0]::KS.At sn K1::lh wm P::Pt b5 94 [pP lm 0]::SI.DM lm lv::A'::L) u9:=Ow.ord [1,1,1,1,1,0] h9
   refine⟨_,h9'.rd 0 rfl (by simp),?_⟩
   have ew:IntKind.wrap .i64 ((i:Int)+1)=(i:Int)+1:=aB (by omega) (by omega)
   rw[ew]at ar |-
   obtain⟨j,Fp,Ur,hj3,hj4⟩:=hyg
   refine ae.mk (λbm=>?_) (λheq=>?_)
   ·have akR:y.2≠(i:Int)+1:=by simpa using bm
    have yK:j<i:=by
     rcases Nat.lt_trichotomy j i with h|h|h
     ·exact h
     ·subst h;exact absurd hj4 akR
     ·exact absurd (List.getElem?_eq_getElem hi) (hj3 i h)
    exact ar _ ⟨K1,lv,DJ,hB.skip hi (CC yK Ur),h9'.drop⟩
   ·intro b64 alo Au ZA
    have h10:=(mL.new (e:=58) (sz:=3) (h9'.new 58 gs[i].pv alo)).new 74 [pV none 0 0] ZA
    refine h10.st 0 rfl (by simp) λu11 h11=>?_
    have aew:Ow (Pt Au 74 [pV (some ⟨b64,0,none⟩) 1 1]::mL 58 3 (pV (some ⟨b64,0,none⟩) 1 1) ([gs[i]].map Sym.pv)::Pt RM 3 [pI ((i:Nat):Int)]::Pt Ng 87 [pP sn 0]::KS.At sn K1::lh wm P::Pt b5 94 [pP lm 0]::SI.DM lm lv::A'::L) u11:=h11
    refine⟨λm _ u=>∃K2 T lv a n c,m=(gs.length+es.length-K2.length)+T.length/\T.length<=K2.length/\Sg gs lv K2/\eU gs es (i+1) K2 T (λ_=>False)/\Ow (Pt Au 74 [pV a n c]::mL 58 3 (pV a n c) (T.map Sym.pv)::Pt RM 3 [pI ((i:Nat):Int)]::Pt Ng 87 [pP sn 0]::KS.At sn K2::lh wm P::Pt b5 94 [pP lm 0]::SI.DM lm lv::A'::L) u,
     ⟨_,K1,[gs[i]],lv,_,_,_,rfl,List.length_pos_of_mem hgK,DJ,hB.goal hi,aew⟩,?_⟩
    clear h11 aew h10 h9 h9' h8 h8' h7 DJ hB wu hKl xu hgK hy Kt
    rintro m _ u12 ⟨K2,T,lv,a,n,c,rfl,hTK,DJ,hB,wv⟩
    have hKl:=hB.len
    have xu:=DJ.len
    refine⟨_,_,_,wv.rd 0 rfl (by simp),?_⟩
    cases T with
    |nil=>
     obtain⟨_,_,_,_,_,e,_⟩:=mL.open_ wv.swap
     simp only[PV.raw.injEq,Value.slice.injEq,List.length_map,List.length_nil]at e
     obtain⟨rfl,rfl,rfl⟩:=e
     exact ae.f (by simp) (ar _ ⟨K2,lv,DJ,hB,wv.drop.drop.drop⟩)
    |cons s T=>
     obtain⟨qb,qo,rfl,rfl,hnc,eF⟩:=mL.hd (r:=s.pv) (rows:=T.map Sym.pv) wv.swap rfl
     refine ae.t (by simp) ⟨_,_,_,wv.rd 0 rfl (by simp),by omega,by omega,_,_,_,by simpa using eF,?_⟩
     have hwb:P.length<=es.length:=hP.le
     have cut:∀{ν:Mem} {M:List bk} {C:Mem->Prop},Ow (Pt Au 74 [pV (some ⟨qb,qo,none⟩) ((T.map Sym.pv).length+1) c]::mL 58 3 (pV (some ⟨qb,qo,none⟩) ((T.map Sym.pv).length+1) c) (s.pv::T.map Sym.pv)::M) ν->
       (∀a' n' c' ν',Ow (Pt Au 74 [pV a' n' c']::mL 58 3 (pV a' n' c') (T.map Sym.pv)::M) ν'->C ν')->
       ∃x76 SN Ll,aN ν Au 0 1=some [pV x76 SN Ll]/\fW x76/\(0:Int)<=(1)/\(1)<=((SN:Nat):Int)/\((SN:Nat):Int)<=((Ll:Nat):Int)/\((Ll:Nat):Int)<=((Ll:Nat):Int)/\
        stM Au 0 [pV (sX x76 (Int.toNat (1)) (Int.toNat ((Ll:Nat):Int)) 3) (Int.toNat ((SN:Nat):Int)-Int.toNat (1)) (Int.toNat ((Ll:Nat):Int)-Int.toNat (1))] ν C:=λ{ν M C} hν hC=>by
      refine⟨_,_,_,hν.rd 0 rfl (by simp),λx e=>(by cases e;rfl),by omega,by omega,by omega,by omega,?_⟩
      refine(hν.tail λ_ h=>mL.tl h rfl).st 0 rfl (by simp) λν' h=>?_
      exact hC _ _ _ ν' h
     refine MM.get (M:=SS.M) (pr:=SS.pv) (D:=KS.D) (gR:=KS.pv) aF (kk:=SS.key) (λ_=>rfl) SS.tV (Ow.ord [5] wv) hP.up (by omega) s (λAa vs Bb b u13 hPe h13=>⟨_,_,rfl,?_⟩) (λu13 hPn h13=>⟨_,_,rfl,?_⟩)
     ·have ZL:Ow (Pt Au 74 [pV (some ⟨qb,qo,none⟩) ((T.map Sym.pv).length+1) c]::mL 58 3 (pV (some ⟨qb,qo,none⟩) ((T.map Sym.pv).length+1) c) (s.pv::T.map Sym.pv)::Pt RM 3 [pI ((i:Nat):Int)]::Pt Ng 87 [pP sn 0]::KS.At sn K2::Pt b5 94 [pP lm 0]::SI.DM lm lv::KS.At b vs::zC wm Aa s b Bb::A'::L) u13:=Ow.ord [2,2,2,2,2,2,2,0,0] h13
      refine cut ZL λa' n' c' u14 h14=>ae.f rfl ?_
      have vc:dh aJ KS.key vs:=hP.ups (s,vs) (by rw[hPe];simp)
      have DH:vs.length<=es.length:=hP.les (s,vs) (by rw[hPe];simp)
      have ad5:∀v,v∈vs↔∃e∈es,e.id=s/\e.value=v:=λv=>by
       rw[<- hP.iff]
       constructor
       ·intro hv;exact⟨(s,vs),by rw[hPe];simp,rfl,hv⟩
       ·rintro⟨x,hx,hxs,hv⟩
        have:x=(s,vs):=hP.up.inj aF hx (by rw[hPe];simp) hxs
        rw[this]at hv;exact hv
      refine(KS.IP b).call ⟨_,_,_,rfl,?_⟩
      have hvm:(vs.map λx=>[KS.arg x]).length=vs.length:=by simp
      refine bJ.own (KS.rF b vs (by omega)) (Ow.ord [7] h14)
       (λj u=>∃K3 T3 Mk a n c,T3.length+K2.length=T.length+K3.length/\(∀v∈vs.take j,v.k=1->v∈K3)/\Sg gs Mk K3/\eU gs es (i+1) K3 T3 (λt=>t=s)/\s∈K3/\Ow (Pt Au 74 [pV a n c]::mL 58 3 (pV a n c) (T3.map Sym.pv)::Pt RM 3 [pI ((i:Nat):Int)]::Pt Ng 87 [pP sn 0]::KS.At sn K3::Pt b5 94 [pP lm 0]::SI.DM lm Mk::KS.At b vs::zC wm Aa s b Bb::A'::L) u)
       (λ_ _=>False) (λj=>eG.ex λ_=>eG.ex λ_=>eG.ex λ_=>eG.ex λ_=>eG.ex λ_=>eG.ex λ_=>eG.and (eG.and (eG.and (eG.and (eG.and (eG.own _)))))) (λ_ _ _ _ h=>h.elim)
       (λu15 SA=>⟨K2,T,lv,a',n',c',rfl,by simp,DJ,hB.pop,hB.td s (by simp),Ow.ord [1,1,1,1,1,1,1,0] SA⟩) ?_ ?_ (λ_ _ h=>h.elim)
      ·rintro j Ur u15 R ⟨K3,T3,Mk,a3,n3,c3,hT3,gp,CS,WG,hs3,SA⟩ dF _
       have hj:j<vs.length:=by simpa using Ur
       have hK3:=WG.len
       have hl3:=CS.len
       rw[List.length_cons]at hTK
       rw[List.getElem_map]
       have ir:vs.take (j+1)=vs.take j++[vs[j]]:=by rw[List.take_add_one,List.getElem?_eq_getElem hj];rfl
       refine⟨_,_,_,rfl,ae.mk (λbP=>?_) (λbP=>?_)⟩
       ·have Ig:vs[j].k=1:=by simpa using bP
        refine⟨_,SA.rd 3 rfl (by simp),?_⟩
        refine KS.f_ (l:=K3) (Ow.ord [4] SA) CS.upK (by omega) vs[j] λu16 ZK=>⟨_,rfl,ae.mk (λlR=>?_) (λhold=>?_)⟩
        ·have hnv:vs[j]∉K3:=ZM.1 lR
         obtain⟨e,Zv,WB,he3⟩:=(ad5 vs[j]).1 (List.getElem_mem hj)
         have hBa:=WG.add Zv (by rw[WB];exact hs3) (by rw[he3];exact Ig) (by rw[he3];exact hnv)
         rw[he3]at hBa
         have hBb:eU gs es (i+1) (bC aJ KS.key vs[j] K3) (T3++[vs[j]]) (λt=>t=s):=hBa.congr (λt=>by rw[iJ,List.mem_append,List.mem_singleton];exact Or.comm) (AI (CS.upK.put aF _))
         have ZJ:Ow (Pt Au 74 [pV a3 n3 c3]::mL 58 3 (pV a3 n3 c3) (T3.map Sym.pv)::Pt RM 3 [pI ((i:Nat):Int)]::Pt Ng 87 [pP sn 0]::KS.At sn (bC aJ KS.key vs[j] K3)::Pt b5 94 [pP lm 0]::SI.DM lm Mk::KS.At b vs::zC wm Aa s b Bb::A'::L) u16:=Ow.ord [1,1,1,1,0] ZK
         refine⟨_,ZJ.rd 5 rfl (by simp),_,ZJ.rd 2 rfl (by simp),?_⟩
         rw[aB (by omega) (by omega)]
         refine SI.zg (l:=Mk) (Ow.ord [6] ZJ) CS.up (by omega) vs[j] ((i:Int)+1) λu17 WI=>⟨_,rfl,?_⟩
         have aet:Ow (Pt Au 74 [pV a3 n3 c3]::mL 58 3 (pV a3 n3 c3) (T3.map Sym.pv)::Pt RM 3 [pI ((i:Nat):Int)]::Pt Ng 87 [pP sn 0]::KS.At sn (bC aJ KS.key vs[j] K3)::Pt b5 94 [pP lm 0]::SI.DM lm (eu aJ SI.key (vs[j],(i:Int)+1) Mk)::KS.At b vs::zC wm Aa s b Bb::A'::L) u17:=Ow.ord [1,1,1,1,1,1,0] WI
         refine⟨_,_,_,aet.rd 0 rfl (by simp),?_⟩
         obtain⟨aq,cq,eq,jQ⟩:=mL.app aet.swap (nY (pv:=Sym.pv) (sz:=3) (λ_=>rfl) T3)
         simp only[PV.raw.injEq,Value.slice.injEq]at eq
         obtain⟨rfl,rfl,rfl⟩:=eq
         refine jQ vs[j].pv 32 _ rfl rfl (by rw[List.length_map];omega) (by rw[List.length_map];omega) λa4 c4 u18 h18=>?_
         refine h18.swap.st 0 rfl (by simp) λu19 h19=>dF _ ⟨bC aJ KS.key vs[j] K3,T3++[vs[j]],eu aJ SI.key (vs[j],(i:Int)+1) Mk,a4,(T3.map Sym.pv).length+1,c4,?_,?_,CS.add hnv WG.gl (by omega),hBb,iJ.2 (.inr hs3),?_⟩
         ·rw[Pd hnv,List.length_append,List.length_singleton];omega
         ·rw[ir]
          intro v hv YZ
          rcases List.mem_append.1 hv with hv|hv
          ·exact iJ.2 (.inr (gp v hv YZ))
          ·simp only[List.mem_singleton]at hv;exact iJ.2 (.inl hv)
         ·have h20:Ow (Pt Au 74 [pV a4 ((T3.map Sym.pv).length+1) c4]::mL 58 3 (pV a4 ((T3.map Sym.pv).length+1) c4) (T3.map Sym.pv++[vs[j].pv])::Pt RM 3 [pI ((i:Nat):Int)]::Pt Ng 87 [pP sn 0]::KS.At sn (bC aJ KS.key vs[j] K3)::Pt b5 94 [pP lm 0]::SI.DM lm (eu aJ SI.key (vs[j],(i:Int)+1) Mk)::KS.At b vs::zC wm Aa s b Bb::A'::L) u19:=h19
          rw[List.map_append]
          exact h20
        ·have Qk:vs[j]∈K3:=Classical.byContradiction λh=>by
          have h9:(bI KS.ck KS.key (KS.key vs[j]) K3).isNone=true:=ZM.2 h
          rw[h9]at hold;cases hold
         have e1:bC KS.ck KS.key vs[j] K3=K3:=by
          unfold bC
          rw[if_pos]
          cases hg:bI KS.ck KS.key (KS.key vs[j]) K3 with
          |some z=>rfl
          |none=>exact absurd Qk (ZM.1 (by rw[show bI aJ KS.key vs[j] K3=none from hg];rfl))
         rw[e1]at ZK
         refine dF _ ⟨K3,T3,Mk,a3,n3,c3,hT3,?_,CS,WG,hs3,Ow.ord [1,1,1,1,0] ZK⟩
         rw[ir]
         intro v hv YZ
         rcases List.mem_append.1 hv with hv|hv
         ·exact gp v hv YZ
         ·simp only[List.mem_singleton]at hv;rw[hv];exact Qk
       ·have Ig:vs[j].k≠1:=by simpa using bP
        refine dF _ ⟨K3,T3,Mk,a3,n3,c3,hT3,?_,CS,WG,hs3,SA⟩
        rw[ir]
        intro v hv YZ
        rcases List.mem_append.1 hv with hv|hv
        ·exact gp v hv YZ
        ·simp only[List.mem_singleton]at hv;rw[hv]at YZ;exact absurd YZ Ig
      ·rintro u15 ⟨K3,T3,Mk,a3,n3,c3,hT3,gp,CS,WG,hs3,SA⟩
       rw[hvm,List.take_length]at gp
       dsimp only[PK]
       have hK3:=WG.len
       refine⟨(gs.length+es.length-K3.length)+T3.length,by simp only[List.length_cons];omega,K3,T3,Mk,a3,n3,c3,rfl,by rw[List.length_cons]at hTK;omega,CS,WG.done λt ht=>?_,?_⟩
       ·subst ht
        intro e Zv WB he3
        exact gp e.value ((ad5 _).2 ⟨e,Zv,WB,rfl⟩) he3
       ·have ZK:Ow (KS.At b vs::zC wm Aa s b Bb::Pt Au 74 [pV a3 n3 c3]::mL 58 3 (pV a3 n3 c3) (T3.map Sym.pv)::Pt RM 3 [pI ((i:Nat):Int)]::Pt Ng 87 [pP sn 0]::KS.At sn K3::Pt b5 94 [pP lm 0]::SI.DM lm Mk::A'::L) u15:=Ow.ord [7,7] SA
        have WI:=MM.Jk.rD (M:=SS.M) (pr:=SS.pv) (D:=KS.D) (gR:=KS.pv) (vs:=vs) ZK
        rw[<- hPe]at WI
        exact Ow.ord [1,1,1,1,1,0] WI
     ·have ZL:Ow (Pt Au 74 [pV (some ⟨qb,qo,none⟩) ((T.map Sym.pv).length+1) c]::mL 58 3 (pV (some ⟨qb,qo,none⟩) ((T.map Sym.pv).length+1) c) (s.pv::T.map Sym.pv)::Pt RM 3 [pI ((i:Nat):Int)]::Pt Ng 87 [pP sn 0]::KS.At sn K2::lh wm P::Pt b5 94 [pP lm 0]::SI.DM lm lv::A'::L) u13:=Ow.ord [1,1,1,1,1,0] h13
      refine cut ZL λa' n' c' u14 h14=>ae.t rfl ⟨(gs.length+es.length-K2.length)+T.length,by simp only[List.length_cons];omega,K2,T,lv,a',n',c',rfl,by rw[List.length_cons]at hTK;omega,DJ,hB.pop.done λt ht=>?_,h14⟩
      subst ht
      intro e Zv WB _
      obtain⟨x,hx,hxk⟩:=hP.one e Zv
      exact absurd (hxk.trans WB) (hPn x hx)
  ·rintro u7 next ⟨K1,lv,DJ,hB,h7⟩
   refine ae.f (by simp) ⟨_,h7.rd 3 rfl (by simp),hk lm lv u7 ⟨DJ.up,λs=>(DJ.keys s).trans (hB.all s),DJ.pos,Nat.le_trans DJ.len hB.len⟩ ?_⟩
   exact h7.drop.drop.drop.drop
end
open Classical
structure XC where
 b:Nat
 st:Nat
 el:Nat
 tg:Nat
 lm:Nat
@[reducible] def XC.pv(x:XC)(v:a_):List PV:=[.list 12 .sh (v.elems.map av.pv),.list 16 .sh (v.aS.map eC.pv),.list 9 .sh (v.goals.map Goal.pv),.list 5 .sh (v.insts.map ma.pv),.list 1 .sh (v.cD.map Da),.list 1 .sh (v.JX.map OG),pI v.syms,pI v.c1,pI v.c2,pI v.c3,pI v.c4,pI v.c5,pI v.c6,pP x.st 0,pP x.el 0,pP x.tg 0,pP x.lm 0]
def jd(v:a_):List Sym:=cr aJ KS.key [] v.ay
def kC(v:a_):List av:=cr fO KE.key [] v.elems
def sZ(v:a_):List Int:=cr fB KA.key [] (v.elems.map av.tag)
abbrev XL(v:a_)(x:XC)(lv:List (Sym×Int))(L:List bk):List bk:=Pt x.b 96 (x.pv v)::KS.At x.st (jd v)::KE.At x.el (kC v)::KA.At x.tg (sZ v)::SI.DM x.lm lv::L
theorem OQ(v:a_):dh aJ KS.key (jd v):=dV aF _ List.Pairwise.nil
theorem OR(v:a_):dh fO KE.key (kC v):=dV cH _ List.Pairwise.nil
theorem OP(v:a_):dh fB KA.key (sZ v):=dV eK _ List.Pairwise.nil
theorem LJ(v:a_):(jd v).length<=v.goals.length:=by have:=(dp (key:=KS.key) aF v.ay (a:=[])).1;unfold a_.ay at this;unfold jd a_.ay;simpa using this
theorem LL(v:a_):(kC v).length<=v.elems.length:=by have:=(dp (key:=KE.key) cH v.elems (a:=[])).1;unfold kC;simpa using this
theorem LH(v:a_):(sZ v).length<=v.elems.length:=by have:=(dp (key:=KA.key) eK (v.elems.map av.tag) (a:=[])).1;unfold sZ;simpa using this
theorem LK(v:a_)(s:Sym):(bI aJ KS.key s (jd v)).isSome=decide (s∈v.ay):=by
 rw[Bool.eq_iff_iff,eR aF,decide_eq_true_eq]
 unfold jd
 rw[fY aF]
 constructor
 ·rintro(⟨x,hx,_⟩|⟨x,hx,rfl⟩)
  ·cases hx
  ·exact hx
 ·intro h;exact .inr ⟨s,h,rfl⟩
theorem LM(v:a_)(k:NL):(bI fO KE.key k (kC v)).isSome=decide (dB v.elems k):=by
 rw[Bool.eq_iff_iff,eR cH,decide_eq_true_eq]
 unfold kC
 rw[fY cH]
 constructor
 ·rintro(⟨x,hx,_⟩|h)
  ·cases hx
  ·exact h
 ·intro h;exact .inr h
theorem LI(v:a_)(t:Int):(bI fB KA.key t (sZ v)).isSome=decide (∃e∈v.elems,e.tag=t):=by
 rw[Bool.eq_iff_iff,eR eK,decide_eq_true_eq]
 unfold sZ
 rw[fY eK]
 constructor
 ·rintro(⟨x,hx,_⟩|⟨x,hx,h⟩)
  ·cases hx
  ·obtain⟨e,he,rfl⟩:=List.mem_map.1 hx
   exact⟨e,he,h⟩
 ·rintro⟨e,he,h⟩;exact .inr ⟨e.tag,List.mem_map_of_mem he,h⟩
section
variable {v:a_} {x:XC} {lv:List (Sym×Int)} {L:List bk} {μ:Mem} (hv:v.Ok) (hl:Nw v.ay v.elems lv)
include hv hl
theorem De(hO:Ow (XL v x lv L) μ)(s:Sym){K:Kq}(hk:∀μ',Ow (XL v x lv L) μ'->K (pB (decide (pe v.ay v.elems s))) μ'):ab prog 87 [pP x.b 0,.agg s.pv] μ K:=by
 have hle:=hl.le
 have h1:=hv.e;have h2:=hv.g
 have DI:v.ay.length=v.goals.length:=by unfold a_.ay;simp
 have hd:=hl.get s
 refine sJ.c ⟨_,hO.rd 0 rfl (by simp),?_⟩
 refine SI.tV (l:=lv) (Ow.ord [4] hO) hl.up (by omega) s (λy u hy hu=>⟨_,_,rfl,?_⟩) (λu hy hu=>⟨_,_,rfl,?_⟩)
 ·have:=hk u (Ow.ord [1,1,1,1,0] hu)
  rw[decide_eq_true (hd.1 (by rw[show bI aJ SI.key s lv=some y from hy];rfl))]at this
  exact this
 ·have:=hk u (Ow.ord [1,1,1,1,0] hu)
  rw[decide_eq_false λh=>by have:=hd.2 h;rw[show bI aJ SI.key s lv=none from hy]at this;cases this]at this
  exact this
theorem Rw(hO:Ow (XL v x lv L) μ)(s:Sym){K:Kq}(hk:K (pB (decide (s∈v.ay))) μ):ab prog 88 [pP x.st 0,.agg s.pv] μ K:=by
 have h2:=hv.g;have h3:=LJ v
 refine qO.c ?_
 refine KS.gL (l:=jd v) (Ow.ord [1] hO) (OQ v) (by omega) s ⟨_,_,rfl,?_⟩
 rw[show(bI KS.ck KS.key (KS.key s) (jd v)).isSome=decide (s∈v.ay)from LK v s]
 exact hk
theorem sc(hO:Ow (XL v x lv L) μ)(e:av){K:Kq}(hk:K (pB (decide (dB v.elems e.key))) μ):ab prog 90 [pP x.el 0,.agg e.pv] μ K:=by
 have h2:=hv.e;have h3:=LL v
 refine iT.c ?_
 refine KE.gL (l:=kC v) (Ow.ord [2] hO) (OR v) (by omega) e ⟨_,_,rfl,?_⟩
 rw[show(bI KE.ck KE.key (KE.key e) (kC v)).isSome=decide (dB v.elems e.key)from LM v e.key]
 exact hk
theorem aay(hO:Ow (XL v x lv L) μ)(t:Int){K:Kq}(hk:K (pB (decide (∃e∈v.elems,e.tag=t))) μ):ab prog 65 [pP x.tg 0,pI t] μ K:=by
 have h2:=hv.e;have h3:=LH v
 refine fQ.c ?_
 refine KA.gL (l:=sZ v) (Ow.ord [3] hO) (OP v) (by omega) t ⟨_,_,rfl,?_⟩
 rw[show(bI KA.ck KA.key (KA.key t) (sZ v)).isSome=decide (∃e∈v.elems,e.tag=t)from LI v t]
 exact hk
theorem Rz(hO:Ow (XL v x lv L) μ)(n:Int){K:Kq}(hk:K (pB (decide (v.gl n))) μ):ab prog 92 [pP x.b 0,pI n] μ K:=by
 refine ux.c (ae.mk (λh=>⟨_,_,hO.rd 0 rfl (by simp),?_⟩) (λh=>?_))
 ·have h1:n>=1:=by simpa using h
  rw[List.length_map]
  have:decide (n<=((v.goals.length:Nat):Int))=decide (v.gl n):=by
   rw[decide_eq_decide];exact⟨λh=>⟨h1,h⟩,λh=>h.2⟩
  rw[this];exact hk
 ·have h1:¬n>=1:=by simpa using h
  rw[decide_eq_false (p:=v.gl n) λh=>h1 h.1]at hk;exact hk
theorem aaj(hO:Ow (XL v x lv L) μ){K:Kq}(hk:∀μ',Ow (XL v x lv L) μ'->K (pB (decide v.R1)) μ'):ab prog 36 [pP x.b 0] μ K:=by
 have he:=hv.e
 have bad:¬v.R1->∀μ',Ow (XL v x lv L) μ'->K (pB false) μ':=λh u hu=>by have:=hk u hu;rw[decide_eq_false h]at this;exact this
 refine sI.c ⟨_,_,hO.rd 0 rfl (by simp),?_⟩
 rw[List.length_map]
 refine aj.ed (n:=v.elems.length) (by omega) (λk (s:Int) u=>Ow (XL v x lv L) u/\(∀e∈v.elems.take k,1<=e.tag/\e.tag<=s)/\0<=s/\(v.elems.take k).Pairwise (λa b=>a.tag<b.tag)/\(s=0\/∃e∈v.elems.take k,e.tag=s)) ⟨hO,by simp,by omega,by simp,.inl rfl⟩ ?_ ?_
 ·rintro k s u next bP ⟨h1,h2,h3,h4,h5⟩ ar
  refine ae.t (by simpa using bP) ⟨by omega,_,aI bP,_,_,_,_,_,_,_,_,_,_,_,_,rfl,ae.mk (λh=>bad (λhR=>?_) u h1) (λh=>ar _ _ ⟨h1,λe he=>?_,?_,?_,?_⟩)⟩
  ·have h6:v.elems[k].tag<=s:=by simpa using h
   rcases h5 with rfl|⟨e,he,rfl⟩
   ·have:=hR.1 _ (List.getElem_mem bP);omega
   ·obtain⟨i,hi,rfl⟩:=List.mem_iff_getElem.1 he
    rw[List.length_take]at hi
    rw[List.getElem_take]at h6
    have:=List.pairwise_iff_getElem.1 hR.2.1 i k (by omega) bP (by omega)
    omega
  ·have h6:¬v.elems[k].tag<=s:=by simpa using h
   rw[List.take_add_one,List.getElem?_eq_getElem bP,List.mem_append]at he
   rcases he with he|he
   ·have:=h2 e he;exact⟨this.1,by omega⟩
   ·simp only[Option.toList_some,List.mem_singleton]at he;subst he;exact⟨by omega,Int.le_refl _⟩
  ·have h6:¬v.elems[k].tag<=s:=by simpa using h
   omega
  ·have h6:¬v.elems[k].tag<=s:=by simpa using h
   rw[List.take_add_one,List.getElem?_eq_getElem bP,List.pairwise_append]
   refine⟨h4,by simp,λa ha b hb=>?_⟩
   simp only[Option.toList_some,List.mem_singleton]at hb
   subst hb
   have:=(h2 a ha).2;omega
  ·refine .inr ⟨v.elems[k],?_,rfl⟩
   rw[List.take_add_one,List.getElem?_eq_getElem bP];exact List.mem_append_right _ (by simp)
 ·rintro s u next ⟨h1,h2,h3,h4,h5⟩
  rw[List.take_length]at h2 h4
  refine ae.f (by simp) ⟨_,h1.rd 0 rfl (by simp),?_⟩
  have fin:((((kC v).length:Nat):Int) == ((v.elems.length:Nat):Int))=decide v.R1:=by
   rw[Bool.eq_iff_iff,beq_iff_eq,decide_eq_true_eq]
   have h6:=(dp (key:=KE.key) cH v.elems (a:=[])).2
   have h7:(kC v).length=v.elems.length↔v.elems.Pairwise λa b=>a.key≠b.key:=by
    unfold kC
    rw[List.length_nil,Nat.zero_add]at h6
    rw[h6];simp
   constructor
   ·intro h;exact⟨λe he=>(h2 e he).1,h4,h7.1 (by omega)⟩
   ·intro h;have:=h7.2 h.2.2;omega
  have hK:=hk u h1
  rw[<- fin]at hK
  refine⟨⟨_,_,h1.rd 0 rfl (by simp),KE.FY (l:=kC v) (Ow.ord [2] h1) ⟨_,rfl,?_⟩,trivial⟩,KE.FY (l:=kC v) (Ow.ord [2] h1) ⟨_,rfl,_,_,h1.rd 0 rfl (by simp),?_⟩,trivial⟩
  ·rw[List.length_map];exact hK
  ·rw[List.length_map];exact hK
theorem aae(hO:Ow (XL v x lv L) μ){K:Kq}(hk:∀μ',Ow (XL v x lv L) μ'->K (pB (decide v.R6)) μ'):ab prog 41 [pP x.b 0] μ K:=by
 have hi:=hv.i
 have bad:¬v.R6->∀μ',Ow (XL v x lv L) μ'->K (pB false) μ':=λh u hu=>by have:=hk u hu;rw[decide_eq_false h]at this;exact this
 refine sD.c ⟨_,_,hO.rd 0 rfl (by simp),?_⟩
 rw[List.length_map]
 refine aj.each (n:=v.insts.length) (by omega) (λk u=>Ow (XL v x lv L) u/\∀(i:Nat) (h:i<v.insts.length),i<k->v.gl v.insts[i].level/\∀h0:0<i,v.insts[i-1].num<v.insts[i].num) ⟨hO,λi h h2=>by omega⟩ ?_ ?_
 ·rintro k u next bP ⟨h1,hI⟩ ar
  have row:(v.insts.map ma.pv)[Int.toNat (k:Int)]?=some v.insts[k].pv:=aI bP
  have tl:(∀h0:0<k,v.insts[k-1].num<v.insts[k].num)->ab prog 92 [pP x.b 0,pI v.insts[k].level] u λLo uB=>∃VN,Lo=(pB VN)/\ae (!VN) (K (pB false) uB) (next (IntKind.wrap .i64 ((k:Int)+(1))) uB):=λQh=>by
   refine Rz hv hl h1 _ ⟨_,rfl,ae.mk (λh=>bad (λhR=>?_) u h1) (λh=>ar _ ⟨h1,λi hi oO=>?_⟩)⟩
   ·rw[decide_eq_true (hR.2 _ (List.getElem_mem bP))]at h;cases h
   ·by_cases e:i=k
    ·subst e;exact⟨of_decide_eq_true (by simpa using h),Qh⟩
    ·exact hI i hi (by omega)
  refine ae.t (by simpa using bP) ⟨by omega,_,row,_,_,_,_,_,_,rfl,ae.mk (λh0=>⟨_,_,h1.rd 0 rfl (by simp),?_⟩) (λh0=>tl λh2=>absurd (show((k:Nat):Int)>0 by omega) (by simpa using h0))⟩
  have Al:0<k:=by have:((k:Nat):Int)>0:=by simpa using h0
                  omega
  have Yw:(v.insts.map ma.pv)[Int.toNat (IntKind.wrap .i64 ((k:Int)-1))]?=some v.insts[k-1].pv:=by
   rw[aB (by omega) (by omega),show Int.toNat ((k:Int)-1)=k-1 from by omega,List.getElem?_map,List.getElem?_eq_getElem (by omega)];rfl
  refine⟨by rw[aB (by omega) (by omega)];omega,_,Yw,_,rfl,ae.mk (λh=>bad (λhR=>?_) u h1) (λh=>tl λ_=>?_)⟩
  ·have h6:v.insts[k].num<=v.insts[k-1].num:=by simpa using h
   have:=List.pairwise_iff_getElem.1 hR.1 (k-1) k (by omega) bP (by omega)
   omega
  ·have h6:¬v.insts[k].num<=v.insts[k-1].num:=by simpa using h
   omega
 ·rintro u next ⟨h1,hI⟩
  refine ae.f (by simp) ?_
  have:=hk u h1
  rw[decide_eq_true (p:=v.R6) ⟨yd ma.num λi hi=>by have:=(hI (i+1) hi hi).2 (by omega);simpa using this,λi hi=>by
   obtain⟨j,hj,rfl⟩:=List.mem_iff_getElem.1 hi
   exact(hI j hj hj).1⟩]at this
  exact this
theorem aad(hO:Ow (XL v x lv L) μ){K:Kq}(hk:∀μ',Ow (XL v x lv L) μ'->K (pB (decide v.R7)) μ'):ab prog 42 [pP x.b 0] μ K:=by
 have hg:=hv.g;have hd:=hv.d
 have bad:¬v.R7->∀μ',Ow (XL v x lv L) μ'->K (pB false) μ':=λh u hu=>by have:=hk u hu;rw[decide_eq_false h]at this;exact this
 refine sC.c ⟨_,_,hO.rd 0 rfl (by simp),_,_,hO.rd 0 rfl (by simp),?_⟩
 rw[List.length_map,List.length_map,aB (by omega) (by omega)]
 refine ae.mk (λh=>bad (λh2=>?_) _ hO) (λh=>⟨_,_,hO.rd 0 rfl (by simp),?_⟩)
 ·have:((v.cD.length:Nat):Int)≠((v.goals.length:Nat):Int)-1:=by simpa using h
  exact this h2.1
 have hlen:((v.cD.length:Nat):Int)=((v.goals.length:Nat):Int)-1:=by simpa using h
 let Q (l:List Int):Prop:=l.Pairwise (λa b=>a<b)/\∀t∈l,∃e∈v.elems,e.tag=t
 rw[List.length_map]
 refine aj.each (n:=v.cD.length) (by omega) (λk u=>Ow (XL v x lv L) u/\∀l∈v.cD.take k,Q l) ⟨hO,by simp⟩ ?_ ?_
 ·rintro k u next bP ⟨h1,hI⟩ ar
  have CP:=hv.ds _ (List.getElem_mem bP)
  have row:(v.cD.map Da)[Int.toNat (k:Int)]?=some (Da v.cD[k]):=aI bP
  refine ae.t (by simpa using bP) ⟨by omega,_,row,_,_,rfl,?_⟩
  rw[List.length_map]
  refine aj.each (n:=v.cD[k].length) (by omega) (λj u=>Ow (XL v x lv L) u/\∀(i:Nat) (h:i<v.cD[k].length),i<j->(∃e∈v.elems,e.tag=v.cD[k][i])/\∀h0:0<i,v.cD[k][i-1]<v.cD[k][i]) ⟨h1,λi h h2=>by omega⟩ ?_ ?_
  ·rintro j u2 dS hj ⟨h2,hJ⟩ cR
   have akh:(v.cD[k].map HW)[Int.toNat (j:Int)]?=some [pI v.cD[k][j]]:=aI hj
   have tl:(∀h0:0<j,v.cD[k][j-1]<v.cD[k][j])->nP (some ⟨x.b,0,none⟩) λVv TK=>∃VM,aN u2 Vv (TK+15) 1=some [pA VM]/\ab prog 65 [pA VM,pI v.cD[k][j]] u2 λLo JB=>∃VK,Lo=(pB VK)/\ae (!VK) (K (pB false) JB) (dS (IntKind.wrap .i64 ((j:Int)+(1))) JB):=λQh=>by
    refine⟨_,h2.rd 0 rfl (by simp),aay hv hl h2 _ ⟨_,rfl,ae.mk (λh=>bad (λhR=>?_) u2 h2) (λh=>cR _ ⟨h2,λi hi Ah=>?_⟩)⟩⟩
    ·rw[decide_eq_true ((hR.2 _ (List.getElem_mem bP)).2 _ (List.getElem_mem hj))]at h;cases h
    ·by_cases e:i=j
     ·subst e;exact⟨of_decide_eq_true (by simpa using h),Qh⟩
     ·exact hJ i hi (by omega)
   refine ae.t (by simpa using hj) ⟨by omega,_,akh,_,rfl,ae.mk (λh0=>?_) (λh0=>tl λh3=>absurd (show((j:Nat):Int)>0 by omega) (by simpa using h0))⟩
   have Al:0<j:=by have:((j:Nat):Int)>0:=by simpa using h0
                   omega
   have Yw:(v.cD[k].map HW)[Int.toNat (IntKind.wrap .i64 ((j:Int)-1))]?=some [pI v.cD[k][j-1]]:=by
    rw[aB (by omega) (by omega),show Int.toNat ((j:Int)-1)=j-1 from by omega,List.getElem?_map,List.getElem?_eq_getElem (by omega)];rfl
   refine⟨by rw[aB (by omega) (by omega)];omega,_,Yw,_,rfl,ae.mk (λh=>bad (λhR=>?_) u2 h2) (λh=>tl λ_=>?_)⟩
   ·have h6:v.cD[k][j]<=v.cD[k][j-1]:=by simpa using h
    have:=List.pairwise_iff_getElem.1 (hR.2 _ (List.getElem_mem bP)).1 (j-1) j (by omega) hj (by omega)
    omega
   ·have h6:¬v.cD[k][j]<=v.cD[k][j-1]:=by simpa using h
    omega
  ·rintro u2 dS ⟨h2,hJ⟩
   refine ae.f (by simp) (ar _ ⟨h2,λl hl=>?_⟩)
   rw[List.take_add_one,List.getElem?_eq_getElem bP,List.mem_append]at hl
   rcases hl with hl|hl
   ·exact hI l hl
   ·simp only[Option.toList_some,List.mem_singleton]at hl
    subst hl
    exact⟨yd id λi hi=>by have:=(hJ (i+1) hi hi).2 (by omega);simpa using this,λt ht=>by
     obtain⟨i,hi,rfl⟩:=List.mem_iff_getElem.1 ht
     exact(hJ i hi hi).1⟩
 ·rintro u next ⟨h1,hI⟩
  rw[List.take_length]at hI
  refine ae.f (by simp) ?_
  have:=hk u h1
  rw[decide_eq_true (p:=v.R7) ⟨hlen,hI⟩]at this
  exact this
end
open Classical
theorem kW{T:Type}{l:List T}{k:Nat}(hk:k<l.length){x:T}:x∈l.take (k+1)↔x∈l.take k\/x=l[k]:=by rw[List.take_add_one,List.getElem?_eq_getElem hk,List.mem_append];simp
section
variable {v:a_} {x:XC} {lv:List (Sym×Int)} {L:List bk} {μ:Mem} (hv:v.Ok) (hl:Nw v.ay v.elems lv)
include hv hl
theorem aai(hO:Ow (XL v x lv L) μ){K:Kq}(hk:∀μ',Ow (XL v x lv L) μ'->K (pB (decide v.R2)) μ'):ab prog 37 [pP x.b 0] μ K:=by
 have he:=hv.e;have hg:=hv.g
 have DI:v.ay.length=v.goals.length:=by unfold a_.ay;simp
 have bad:¬v.R2->∀μ',Ow (XL v x lv L) μ'->K (pB false) μ':=λh u hu=>by have:=hk u hu;rw[decide_eq_false h]at this;exact this
 have My:(jd v).length=v.goals.length↔v.ay.Nodup:=by
  have h6:=(dp (key:=KS.key) aF v.ay (a:=[])).2
  unfold jd
  rw[List.length_nil,Nat.zero_add]at h6
  rw[<- DI,h6]
  simp only[List.not_mem_nil,false_implies,implies_true,and_true]
  rfl
 refine sH.c ⟨λ_ u=>Ow (XL v x lv L) u/\v.goals≠[]/\v.ay.Nodup,⟨_,_,hO.rd 0 rfl (by simp),?_⟩,?_⟩
 ·rw[List.length_map]
  refine ae.mk (λh=>?_) (λh=>?_)
  ·have h0:v.goals=[]:=List.eq_nil_of_length_eq_zero (by simpa using h)
   have hb:=bad (λhR=>hR.1 h0) μ hO
   exact⟨⟨hb,trivial⟩,hb,trivial⟩
  ·have h0:v.goals≠[]:=λe=>by rw[e]at h;cases h
   have fin:∀{J:Unit->Mem->Prop},(v.ay.Nodup->J () μ)->ae ((((jd v).length:Nat):Int) != ((v.goals.length:Nat):Int)) (K (pB false) μ) (J () μ):=λ{J} hJ=>
    ae.mk (λh1=>bad (λhR=>by have h2:(((jd v).length:Nat):Int)≠((v.goals.length:Nat):Int):=by simpa using h1
                             exact h2 (by rw[My.2 hR.2.1])) μ hO) (λh1=>hJ (My.1 (by have h2:(((jd v).length:Nat):Int)=((v.goals.length:Nat):Int):=by simpa using h1
                                                                                     omega)))
   refine⟨_,hO.rd 0 rfl (by simp),⟨_,_,hO.rd 0 rfl (by simp),KS.FY (l:=jd v) (Ow.ord [1] hO) ⟨_,rfl,?_⟩,trivial⟩,KS.FY (l:=jd v) (Ow.ord [1] hO) ⟨_,rfl,_,_,hO.rd 0 rfl (by simp),?_⟩,trivial⟩
   ·rw[List.length_map];exact fin (J:=λ_ u=>Ow (XL v x lv L) u/\v.goals≠[]/\v.ay.Nodup) λh2=>⟨hO,h0,h2⟩
   ·rw[List.length_map];exact fin (J:=λ_ u=>Ow (XL v x lv L) u/\v.goals≠[]/\v.ay.Nodup) λh2=>⟨hO,h0,h2⟩
 ·rintro _ u ⟨h1,bm,hn⟩
  refine⟨_,_,h1.rd 0 rfl (by simp),?_⟩
  rw[List.length_map]
  refine aj.each (n:=v.goals.length) (by omega) (λk u=>Ow (XL v x lv L) u/\∀g∈v.goals.take k,g.st.k=1) ⟨h1,by simp⟩ ?_ ?_
  ·rintro k u2 next bP ⟨h2,hI⟩ ar
   refine ae.t (by simpa using bP) ⟨by omega,_,aI bP,_,_,_,_,_,_,_,_,_,_,rfl,ae.mk (λh=>bad (λhR=>?_) u2 h2) (λh=>ar _ ⟨h2,λg Fu=>?_⟩)⟩
   ·have h3:v.goals[k].st.k≠1:=by simpa using h
    exact h3 (hR.2.2.1 _ (List.getElem_mem bP))
   ·rcases(kW bP).1 Fu with Fu|rfl
    ·exact hI g Fu
    ·simpa using h
  ·rintro u2 next ⟨h2,hI⟩
   rw[List.take_length]at hI
   refine ae.f (by simp) ⟨_,_,h2.rd 0 rfl (by simp),?_⟩
   rw[List.length_map]
   refine aj.each (n:=v.elems.length) (by omega) (λk u=>Ow (XL v x lv L) u/\∀e∈v.elems.take k,pe v.ay v.elems e.id/\(e.goal=true↔e.id∈v.ay)) ⟨h2,by simp⟩ ?_ ?_
   ·rintro k u3 v_ bP ⟨h3,hJ⟩ iU
    have fin:∀{u:Mem},Ow (XL v x lv L) u->pe v.ay v.elems v.elems[k].id->ae (!(v.elems[k].goal == decide (v.elems[k].id∈v.ay))) (K (pB false) u) (v_ (IntKind.wrap .i64 ((k:Int)+1)) u):=λ{u} hu hr=>by
     refine ae.mk (λh=>bad (λhR=>?_) u hu) (λh=>iU _ ⟨hu,λe he=>?_⟩)
     ·have h4:=(hR.2.2.2 _ (List.getElem_mem bP)).2
      have h5:v.elems[k].goal≠decide (v.elems[k].id∈v.ay):=by simpa using h
      apply h5
      by_cases h6:v.elems[k].id∈v.ay
      ·rw[h4.2 h6,decide_eq_true h6]
      ·rw[decide_eq_false h6]
       cases ME:v.elems[k].goal with
       |false=>rfl
       |true=>exact absurd (h4.1 ME) h6
     ·rcases(kW bP).1 he with he|rfl
      ·exact hJ e he
      ·refine⟨hr,?_⟩
       have h5:v.elems[k].goal=decide (v.elems[k].id∈v.ay):=by simpa using h
       rw[h5,decide_eq_true_eq]
    refine ae.t (by simpa using bP) ⟨by omega,_,aI bP,_,_,_,_,_,_,_,_,_,_,_,_,rfl,De hv hl h3 v.elems[k].id λu4 h4=>⟨_,rfl,ae.mk (λh=>?_) (λh=>?_)⟩,trivial⟩
    ·have hb:=bad (λhR=>by rw[decide_eq_true (hR.2.2.2 _ (List.getElem_mem bP)).1]at h;cases h) u4 h4
     exact⟨⟨hb,trivial⟩,hb,trivial⟩
    ·have hr:pe v.ay v.elems v.elems[k].id:=of_decide_eq_true (by simpa using h)
     exact⟨_,h4.rd 0 rfl (by simp),⟨Rw hv hl h4 _ ⟨_,rfl,fin h4 hr⟩,trivial⟩,Rw hv hl h4 _ ⟨_,rfl,fin h4 hr⟩,trivial⟩
   ·rintro u3 v_ ⟨h3,hJ⟩
    rw[List.take_length]at hJ
    refine ae.f (by simp) ?_
    have:=hk u3 h3
    rw[decide_eq_true (p:=v.R2) ⟨bm,hn,hI,hJ⟩]at this
    exact this
theorem RE(e:av):Pure prog 89 [.agg e.pv] (pB (fi e)):=by
 refine ax.of (Az.c ?_)
 have zO:Pure prog 142 [.agg e.attr.pv] (pB (bE e.attr ou)):=ax.of (nc.c rfl)
 refine zO.call ⟨_,rfl,ae.mk (λh=>ae.mk (λh1=>?_) (λh1=>?_)) (λh=>?_)⟩<;>simp only[wk,cu,fi]
 ·rw[h,h1];rfl
 ·rw[h,h1];rfl
 ·rw[h];rfl
end
open Classical
def iL(l m:List av):List av:=l.filter λx=> !(bI KE.ck KE.key (KE.key x) m).isSome
theorem yA{l m:List av}{k:Nat}(hk:k<l.length):iL (l.take (k+1)) m=iL (l.take k) m++(if(bI KE.ck KE.key (KE.key l[k]) m).isSome then[]else[l[k]]):=by
 unfold iL
 rw[List.take_add_one,List.getElem?_eq_getElem hk,List.filter_append]
 congr 1
 simp only[Option.toList_some,List.filter_cons,List.filter_nil]
 cases(bI KE.ck KE.key (KE.key l[k]) m).isSome<;>rfl
theorem aas{b1 b2:Nat}{l m:List av}(hu:dh fO KE.key m)(hl:l.length<=100000)(hm:m.length<=100000){L:List bk}{μ:Mem}(hO:Ow (KE.At b1 l::KE.At b2 m::L) μ){K:Kq}
  (hk:∀b μ',Ow (KE.At b (iL l m)::KE.At b1 l::KE.At b2 m::L) μ'->K (pP b 0) μ'):ab prog 145 [pP b1 0,pP b2 0] μ K:=by
 refine nB.c λb3 Zz Gf als b5 Sv=>?_
 have O1:=((hO.new 89 [pP b2 0] Zz).new 137 [pV none 0 0,pB false] als).new 89 [pA none] Sv
 refine O1.st 0 rfl (by simp) λu h=>?_
 have h1:Ow (jD 60 12 (pV none 0 0) []::Pt b5 89 [pP Gf 0]::Pt Gf 137 [pV none 0 0,pB false]::Pt b3 89 [pP b2 0]::KE.At b1 l::KE.At b2 m::L) u:=jD.nil _ _ h
 refine(KE.IP b1).call ⟨_,_,_,rfl,?_⟩
 have hlm:(l.map λx=>[KE.arg x]).length=l.length:=by simp
 have rl:∀l:List av,∀r∈l.map av.pv,r.length=12:=nY λ_=>rfl
 refine bJ.own (KE.rF b1 l (by omega)) (Ow.ord [4] h1) (λk u=>∃p,Ow (jD 60 12 p ((iL (l.take k) m).map av.pv)::Pt b5 89 [pP Gf 0]::Pt Gf 137 [p,pB false]::Pt b3 89 [pP b2 0]::KE.At b1 l::KE.At b2 m::L) u) (λ_ _=>False) (λk=>eG.ex λ_=>eG.own _) (λ_ _ _ _ h=>h.elim) (λu h=>⟨pV none 0 0,Ow.ord [1,1,1,1,0] h⟩) ?_ ?_ (λ_ _ h=>h.elim)
 ·rintro k qw u R ⟨p,h2⟩ dF _
  have bP:k<l.length:=by simpa using qw
  have iB:(iL (l.take k) m).length<=l.length:=by
   unfold iL
   exact Nat.le_trans (List.length_filter_le _ _) (by rw[List.length_take];omega)
  rw[List.getElem_map]
  refine⟨_,_,_,_,_,_,_,_,_,_,_,_,rfl,_,h2.rd 3 rfl (by simp),?_⟩
  refine KE.gL (l:=m) (Ow.ord [5] h2) hu (by omega) l[k] ⟨_,_,rfl,ae.mk (λh3=>?_) (λh3=>dF _ ⟨p,?_⟩)⟩
  ·have ZI:(bI KE.ck KE.key (KE.key l[k]) m).isSome=false:=by simpa using h3
   obtain⟨a,c,rfl,jQ⟩:=jD.app h2 (rl _)
   have fin:∀{K:Mem->Prop},(∀u',(∃p,Ow (jD 60 12 p ((iL (l.take (k+1)) m).map av.pv)::Pt b5 89 [pP Gf 0]::Pt Gf 137 [p,pB false]::Pt b3 89 [pP b2 0]::KE.At b1 l::KE.At b2 m::L) u')->K u')->∀(b' c':Nat) (u':Mem),Ow (jD 60 12 (.raw (.slice (some ⟨b',0,none⟩) (((iL (l.take k) m).map av.pv).length+1) c')) ((iL (l.take k) m).map av.pv++[l[k].pv])::Pt b5 89 [pP Gf 0]::Pt Gf 137 [pV a ((iL (l.take k) m).map av.pv).length c,pB false]::Pt b3 89 [pP b2 0]::KE.At b1 l::KE.At b2 m::L) u'->
     stM Gf 0 [pV (some ⟨b',0,none⟩) (((iL (l.take k) m).map av.pv).length+1) c'] u' K:=λ{K} hK b' c' u' h4=>h4.st 2 rfl (by simp) λu5 h5=>hK u5 ⟨pV (some ⟨b',0,none⟩) (((iL (l.take k) m).map av.pv).length+1) c',by
    rw[yA bP,if_neg (by rw[ZI];simp),List.map_append]
    exact h5⟩
   refine⟨_,h2.rd 1 rfl (by simp),_,_,_,h2.rd 2 rfl (by simp),?_⟩
   simp only[and_true]
   refine⟨⟨_,h2.rd 1 rfl (by simp),jQ l[k].pv 112 _ rfl rfl (by rw[List.length_map];omega) (by rw[List.length_map];omega) λb' c' u' h4=>fin dF b' c' u' h4⟩,jQ l[k].pv 112 _ rfl rfl (by rw[List.length_map];omega) (by rw[List.length_map];omega) λb' c' u' h4=>⟨_,h4.rd 1 rfl (by simp),fin dF b' c' u' h4⟩⟩
  ·have ZI:(bI KE.ck KE.key (KE.key l[k]) m).isSome=true:=by simpa using h3
   rw[yA bP,if_pos ZI,List.append_nil]
   exact h2
 ·rintro u ⟨p,h2⟩
  rw[hlm,List.take_length]at h2
  dsimp only[PK]
  refine⟨_,h2.rd 1 rfl (by simp),hk Gf u ?_⟩
  have h3:Ow (Pt Gf 137 [p,pB false]::jD 60 12 p ((iL l m).map av.pv)::KE.At b1 l::KE.At b2 m::L) u:=(Ow.ord [1] h2).drop |> Ow.ord [1] |> λh=>(h.tail λ_ h=>h.tail λ_ h=>h.drop)
  exact bp.ac_ h3 (rl _) (AV (λ_=>rfl) _)
def Mn(p:eC):Bool:=(p.kind == 1)||((p.kind == 3)&&bE p.attr ou)
theorem Kr(p:eC):Mn p=true↔(p.kind=1\/p.kind=3/\p.attr=ou):=by
 unfold Mn
 constructor
 ·intro h
  rcases(Bool.or_eq_true _ _).mp h with h|h
  ·exact .inl (beq_iff_eq.1 h)
  ·have h':=(Bool.and_eq_true _ _).mp h
   exact .inr ⟨beq_iff_eq.1 h'.1,aQ.1 h'.2⟩
 ·rintro(h|⟨h1,h2⟩)
  ·exact(Bool.or_eq_true _ _).mpr (.inl (beq_iff_eq.2 h))
  ·exact(Bool.or_eq_true _ _).mpr (.inr ((Bool.and_eq_true _ _).mpr ⟨beq_iff_eq.2 h1,aQ.2 h2⟩))
def wN(p:eC):Bool:=(p.kind == 2)&& !bE p.attr ou
def HX(l:List eC):List av:=cr fO KE.key [] ((l.filter Mn).map dq)
def oq(l:List eC):List av:=cr fO KE.key [] ((l.filter wN).map dq)
def dM(l:List eC):List av:=iL (HX l) (oq l)
theorem vj(l:List av):(cr fO KE.key [] l).length<=l.length:=by have:=(dp (key:=KE.key) cH l (a:=[])).1;simpa using this
theorem Bv(l:List av)(k:NL):dB (cr fO KE.key [] l) k↔dB l k:=by
 have:=fY (key:=KE.key) cH l (a:=[]) (k:=k)
 simp only[List.not_mem_nil,false_and,exists_false,false_or]at this
 exact this
theorem Lw(l:List eC):(dM l).length<=l.length:=by
 have h2:=vj ((l.filter Mn).map dq)
 have h3:=List.length_filter_le Mn l
 rw[List.length_map]at h2
 unfold dM iL HX
 exact Nat.le_trans (List.length_filter_le _ _) (Nat.le_trans h2 h3)
theorem OF(l:List eC):dh fO KE.key (dM l):=(dV cH _ List.Pairwise.nil).filter _
theorem uL(l:List eC)(k:NL):dB (dM l) k↔lH l k:=by
 have h1:dB (HX l) k↔∃p∈l,(dq p).key=k/\(p.kind=1\/p.kind=3/\p.attr=ou):=by
  unfold HX
  rw[Bv]
  constructor
  ·rintro⟨e,he,hk⟩
   obtain⟨p,hp,rfl⟩:=List.mem_map.1 he
   obtain⟨hp1,hp2⟩:=List.mem_filter.1 hp
   refine⟨p,hp1,hk,?_⟩
   exact(Kr p).1 hp2
  ·rintro⟨p,hp,hk,h2⟩
   refine⟨dq p,List.mem_map_of_mem (List.mem_filter.2 ⟨hp,?_⟩),hk⟩
   exact(Kr p).2 h2
 have h2:∀k,dB (oq l) k↔∃p∈l,(dq p).key=k/\p.kind=2/\p.attr≠ou:=λk=>by
  unfold oq
  rw[Bv]
  have adV:∀p:eC,bE p.attr ou=false↔p.attr≠ou:=λp=>by rw[<- Bool.not_eq_true,aQ]
  constructor
  ·rintro⟨e,he,hk⟩
   obtain⟨p,hp,rfl⟩:=List.mem_map.1 he
   obtain⟨hp1,hp2⟩:=List.mem_filter.1 hp
   simp only[wN,Bool.and_eq_true,beq_iff_eq,Bool.not_eq_true',adV]at hp2
   exact⟨p,hp1,hk,hp2⟩
  ·rintro⟨p,hp,hk,h2⟩
   refine⟨dq p,List.mem_map_of_mem (List.mem_filter.2 ⟨hp,?_⟩),hk⟩
   simp only[wN,Bool.and_eq_true,beq_iff_eq,Bool.not_eq_true',adV]
   exact h2
 unfold lH
 rw[<- h1,<- h2 k]
 unfold dM iL dB
 constructor
 ·rintro⟨e,he,rfl⟩
  obtain⟨Zv,WB⟩:=List.mem_filter.1 he
  refine⟨⟨e,Zv,rfl⟩,λh3=>?_⟩
  have:=(eR (key:=KE.key) cH).2 h3
  rw[show bI KE.ck KE.key (KE.key e) (oq l)=bI fO KE.key e.key (oq l)from rfl,this]at WB
  cases WB
 ·rintro⟨⟨e,he,rfl⟩,h3⟩
  refine⟨e,List.mem_filter.2 ⟨he,?_⟩,rfl⟩
  cases hg:(bI KE.ck KE.key (KE.key e) (oq l)).isSome with
  |false=>rfl
  |true=>exact absurd ((eR (key:=KE.key) cH).1 hg) h3
theorem Ro(p:eC):Pure prog 144 [.agg p.pv] (pB (bE p.attr ou)):=by
 refine ax.of (Gv.c ?_)
 have zO:Pure prog 142 [.agg p.attr.pv] (pB (bE p.attr ou)):=ax.of (nc.c rfl)
 exact zO.call ⟨_,rfl,rfl⟩
theorem QG{T:Type}{f:T->Bool}{g:T->av}{l:List T}{k:Nat}(hk:k<l.length):((l.take (k+1)).filter f).map g=((l.take k).filter f).map g++(if f l[k]then[g l[k]]else[]):=by
 rw[List.take_add_one,List.getElem?_eq_getElem hk,List.filter_append,List.map_append]
 congr 1
 simp only[Option.toList_some,List.filter_cons,List.filter_nil]
 cases f l[k]<;>rfl
theorem IE(f:Fl)(l:List eC)(hl:l.length<=100000){L:List bk}{μ:Mem}(hO:Ow L μ){K:Kq}(hk:∀b μ',Ow (KE.At b (dM l)::L) μ'->K (pP b 0) μ'):ab prog 93 [.list 16 f (l.map eC.pv)] μ K:=by
 refine uy.c ?_
 refine KE.gX hO .nil [] (by simp) λu1 bi h1=>⟨_,rfl,KE.gX h1 .nil [] (by simp) λu2 bo h2=>⟨_,rfl,?_⟩⟩
 rw[List.length_map]
 have il:∀k,(HX (l.take k)).length<=100000:=λk=>by
  have h2:=vj (((l.take k).filter Mn).map dq)
  have h3:=List.length_filter_le Mn (l.take k)
  rw[List.length_map]at h2;rw[List.length_take]at h3
  unfold HX;omega
 have ol:∀k,(oq (l.take k)).length<=100000:=λk=>by
  have h2:=vj (((l.take k).filter wN).map dq)
  have h3:=List.length_filter_le wN (l.take k)
  rw[List.length_map]at h2;rw[List.length_take]at h3
  unfold oq;omega
 refine aj.each (n:=l.length) (by omega) (λk u=>Ow (KE.At bi (HX (l.take k))::KE.At bo (oq (l.take k))::L) u) h2.swap ?_ ?_
 ·rintro k u next bP h3 ar
  refine ae.t (by simpa using bP) ⟨by omega,_,aI bP,_,_,_,_,_,_,_,_,_,_,_,_,_,_,_,_,rfl,?_⟩
  refine⟨λs u=>∃b,s=some ⟨b,0,none⟩/\Ow (Pt b 60 (dq l[k]).pv::KE.At bi (HX (l.take k))::KE.At bo (oq (l.take k))::L) u,⟨?_,?_⟩,?_⟩
  ·refine(Ro l[k]).q ⟨_,rfl,λb hb=>?_⟩
   rw[Mem.tw]at hb |-
   exact(h3.new 60 [pI 0,pS ⟨#[]⟩,pI 0,pI 0,pS ⟨#[]⟩,pI 0,pI 0,pS ⟨#[]⟩,pI 0,pB false,pB false,pI 0] hb).st 0 rfl (by simp) λu4 h4=>⟨b,rfl,h4⟩
  ·intro b hb
   refine(Ro l[k]).q ⟨_,rfl,?_⟩
   rw[Mem.tw]
   exact(h3.new 60 [pI 0,pS ⟨#[]⟩,pI 0,pI 0,pS ⟨#[]⟩,pI 0,pI 0,pS ⟨#[]⟩,pI 0,pB false,pB false,pI 0] hb).st 0 rfl (by simp) λu4 h4=>⟨b,rfl,h4⟩
  ·rintro s u4 ⟨b,rfl,h4⟩
   have gp:HX (l.take (k+1))=if Mn l[k]then bC fO KE.key (dq l[k]) (HX (l.take k))else HX (l.take k):=by
    unfold HX
    rw[QG bP]
    cases Mn l[k]with
    |true=>rw[if_pos rfl,if_pos rfl,eS]
    |false=>rw[if_neg (by simp),if_neg (by simp),List.append_nil]
   have dH:oq (l.take (k+1))=if wN l[k]then bC fO KE.key (dq l[k]) (oq (l.take k))else oq (l.take k):=by
    unfold oq
    rw[QG bP]
    cases wN l[k]with
    |true=>rw[if_pos rfl,if_pos rfl,eS]
    |false=>rw[if_neg (by simp),if_neg (by simp),List.append_nil]
   refine⟨λ_ u=>Ow (Pt b 60 (dq l[k]).pv::KE.At bi (HX (l.take (k+1)))::KE.At bo (oq (l.take k))::L) u,⟨λc u=>c=Mn l[k]/\Ow (Pt b 60 (dq l[k]).pv::KE.At bi (HX (l.take k))::KE.At bo (oq (l.take k))::L) u,?_,?_⟩,?_⟩
   ·refine ae.mk (λh5=>⟨?_,h4⟩) (λh5=>ae.mk (λh6=>⟨_,h4.rd 0 rfl (by simp),?_,h4⟩) (λh6=>⟨?_,h4⟩))
    ·unfold Mn;rw[show(l[k].kind == 1)=true from h5];rfl
    ·unfold Mn;rw[show(l[k].kind == 1)=false from h5,show(l[k].kind == 3)=true from h6];rfl
    ·unfold Mn;rw[show(l[k].kind == 1)=false from h5,show(l[k].kind == 3)=false from h6];rfl
   ·rintro c u5 ⟨rfl,h5⟩
    refine ae.mk (λh6=>⟨_,_,_,_,_,_,_,_,_,_,_,_,h5.rd 0 rfl (by simp),?_⟩) (λh6=>?_)
    ·refine KE.f_ (l:=HX (l.take k)) h5.swap (dV cH _ List.Pairwise.nil) (by have:=il k;omega) (dq l[k]) λu6 h7=>⟨_,rfl,?_⟩
     rw[gp,if_pos h6]
     exact h7.swap
    ·rw[gp,if_neg (by rw[h6];simp)]
     exact h5
   ·rintro _ u5 h5
    have hn:wN l[k]=false->next (IntKind.wrap .i64 ((k:Int)+1)) u5:=λh6=>ar _ (by rw[dH,if_neg (by rw[h6];simp)];exact h5.drop)
    refine ae.mk (λh6=>⟨_,h5.rd 0 rfl (by simp),ae.mk (λh7=>⟨_,_,_,_,_,_,_,_,_,_,_,_,h5.rd 0 rfl (by simp),?_⟩) (λh7=>hn ?_)⟩) (λh6=>hn ?_)
    ·refine KE.f_ (l:=oq (l.take k)) (Ow.ord [2] h5) (dV cH _ List.Pairwise.nil) (by have:=ol k;omega) (dq l[k]) λu6 h8=>⟨_,rfl,ar _ ?_⟩
     have ho:wN l[k]=true:=by unfold wN;rw[show(l[k].kind == 2)=true from h6];exact h7
     rw[dH,if_pos ho]
     exact(Ow.ord [1,1,0] h8).drop
    ·unfold wN;rw[show(l[k].kind == 2)=true from h6];exact h7
    ·unfold wN;rw[show(l[k].kind == 2)=false from h6];rfl
 ·rintro u next h3
  rw[List.take_length]at h3
  refine ae.f (by simp) (aas (dV cH _ List.Pairwise.nil) (by have:=il l.length;rw[List.take_length]at this;exact this) (by have:=ol l.length;rw[List.take_length]at this;exact this) h3 λb u4 h4=>⟨_,rfl,hk b u4 ?_⟩)
  exact h4.tail λ_ h=>h.drop.drop
end Go.Proofs.YtbkejjmjopgpoaaGreat
