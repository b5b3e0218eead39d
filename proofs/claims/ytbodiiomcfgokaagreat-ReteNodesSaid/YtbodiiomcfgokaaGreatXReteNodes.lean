/- What is proved: the statement ReteNodes, as it is given, for every input that it speaks of. Conditions: none. -/
import Derived.Test.YtbodiiomcfgokaaGreatB14
import Derived.Test.YtbodiiomcfgokaaGreatChecked
import Derived.KernelRfl
import Derived.ChangeArms
import Derived.WideShapes
import Derived.DataReads
import Derived.WalkKit
import Derived.ProofKit
import Derived.OpenShut
import Derived.ShutString
import Derived.ChangeOld
import Derived.Below
set_option linter.all false
namespace Go.Proofs.YtbodiiomcfgokaaGreat
open Go.Proofs.Tryz Go.aK
variable {u0:Mem} {K:Kq}
set_option maxRecDepth 100000
theorem qw.c{i:Fl}{g:Lq}{j:Int}(h: aa prog 30 [.list 3 i g,pI 8] u0 λc4 y=> ∃b3,c4=(pB b3)/\ ab b3 (aa prog 19 [] y λc5 b8=> ∃L,c5=(pB L)/\ K (pB L) b8) (aa prog 22 [.list 3 i g,.list 12 .nil []] y λd5 d=> ∃a b,d5=(.aD [pA a,pA b])/\ ab (Option.isNone a) (K (pB false) d) (bZ (α:=Unit) (λf=> nP b λb4 b6=> ∃e3 M,aB d b4 (b6+2) 1=some [.list 3 e3 M]/\ ab (decide (((List.length M:Nat):Int)>0)) (bZ (α:=ByteArray) (λp=> nP b λq t=> nP b λb5 b7=> ∃e6 m,aB d b5 (b7+2) 1=some [.list 3 e6 m]/\ (∃e5 N,aB d q (t+2) 1=some [.list 3 e5 N]/\ (aa prog 31 [pI j,pI ((List.length m:Nat):Int)] d λd6 c2=> ∃n,d6=(pI n)/\ 0<=n/\∃(w:List PV),(N)[Int.toNat n]?=some w/\ ∃P,ay w 0 1=some [pS P]/\ p P c2)/\ True)/\ (aa prog 31 [pI j,pI ((List.length m:Nat):Int)] d λd7 H=> ∃o,d7=(pI o)/\ ∃e4 O,aB H q (t+2) 1=some [.list 3 e4 O]/\ 0<=o/\∃(x:List PV),(O)[Int.toNat o]?=some x/\ ∃Q,ay x 0 1=some [pS Q]/\ p Q H)/\ True) (λe l=> nP b λr u=> (∃W T,aB l r (u+2) 1=some [.list 3 W T]/\ (aa prog 32 [pA a] l λd8 c3=> ∃R,d8=(pI R)/\ (aa prog 33 [.list 3 W T] c3 λd9 I=> ∃X,d9=(pI X)/\ ab (R != X) (((K (pB false) I)/\ True)/\ True) ((aa prog 34 [pA a,pS e] I λe0 J=> ∃Z,e0=(pB Z)/\ ab (!Z) ((K (pB false) J)/\ True) ((aa prog 35 [pA b,pS e] J λe1 z=> ∃a1,e1=(pB a1)/\ ab (!a1) (K (pB false) z) (f () z))/\ True))/\ True))/\ True)/\ True)/\ (aa prog 32 [pA a] l λe2 A=> ∃S,e2=(pI S)/\ ∃V U,aB A r (u+2) 1=some [.list 3 V U]/\ (aa prog 33 [.list 3 V U] A λc6 B=> ∃Y,c6=(pI Y)/\ ab (S != Y) (((K (pB false) B)/\ True)/\ True) ((aa prog 34 [pA a,pS e] B λc7 C=> ∃a0,c7=(pB a0)/\ ab (!a0) ((K (pB false) C)/\ True) ((aa prog 35 [pA b,pS e] C λc8 D=> ∃a2,c8=(pB a2)/\ ab (!a2) (K (pB false) D) (f () D))/\ True))/\ True))/\ True)/\ True)) (f () d)) (λe7 k=> nP b λs v=> (∃a8 a5,aB k s (v+2) 1=some [.list 3 a8 a5]/\ (aa prog 32 [pA a] k λc9 b9=> ∃a3,c9=(pI a3)/\ (aa prog 33 [.list 3 a8 a5] b9 λd0 E=> ∃a9,d0=(pI a9)/\ (ab (a3 == a9) (aa prog 19 [] E λd1 c0=> ∃b1,d1=(pB b1)/\ K (pB b1) c0) (K (pB false) E))/\ True)/\ True)/\ True)/\ (aa prog 32 [pA a] k λd2 F=> ∃a4,d2=(pI a4)/\ ∃a7 a6,aB F s (v+2) 1=some [.list 3 a7 a6]/\ (aa prog 33 [.list 3 a7 a6] F λd3 G=> ∃b0,d3=(pI b0)/\ (ab (a4 == b0) (aa prog 19 [] G λd4 c1=> ∃b2,d4=(pB b2)/\ K (pB b2) c1) (K (pB false) G))/\ True)/\ True)/\ True)))):aa prog 5 [.list 3 i g,pI j] u0 K:= VC [1000007,1000008,1000010] [] [(8,⟨[(7,.one (.raw .str))],[]⟩),(10,⟨[],[]⟩)] [] [] [] [] func5 h
theorem cG.c{m:Fl}{a:Lq}{d:Int}(h: ab (decide (((List.length a:Nat):Int)>d)) (K (pB true) u0) (ak (α:=Int) (λn b f=> ab (decide (b<((List.length a:Nat):Int))) (0<=b/\∃(e:List PV),(a)[Int.toNat b]?=some e/\ ∃i p j q k,ay e 0 3=some [pS i,.list 7 p j,.list 19 q k]/\ aa prog 15 [.agg [pS i,.list 7 .sh j,.list 19 .sh k]] f λo g=> ∃l,o=(pB l)/\ ab l (K (pB true) g) (n (IntKind.wrap .i64 (b+1)) g)) (K (pB false) f)) (0) u0)):aa prog 30 [.list 3 m a,pI d] u0 K:= VC [] [(4,⟨[(5,.one (.raw (.int .i64)))],[]⟩)] [] [] [] [] [] func30 h
theorem eX.c{b a:Int}(h: ab (decide (a<1)) (K (pI 0) u0) ((a:Int)≠0/\ ab (decide (((Int.tmod b a):Int)<0)) (K (pI (IntKind.wrap .i64 ((Int.tmod b a)+a))) u0) (K (pI (Int.tmod b a)) u0))):aa prog 31 [pI b,pI a] u0 K:= VC [] [] [] [] [] [] [] func31 h
theorem ee.c{a:Option Addr}(h: nP a λe f=> ∃b,aB u0 e (f+2) 1=some [pA b]/\ aa prog 82 [pA b] u0 λi g=> ∃d,i=(pI d)/\ K (pI d) g):aa prog 32 [pA a] u0 K:= VC [] [] [] [] [] [] [] func32 h
theorem uJ.c{t:Fl}{f:Lq}(h: ak (α:=(Fl×Lq)×Int) (λv b n=> ab (decide (b.2<((List.length f:Nat):Int))) (ak (α:=(Fl×Lq)×Int) (λi a o=> 0<=b.2/\∃(k:List PV),(f)[Int.toNat b.2]?=some k/\ ∃z p,ay k 1 1=some [.list 7 z p]/\ ab (decide (a.2<=((List.length p:Nat):Int))) (0<=b.2/\∃(l:List PV),(f)[Int.toNat b.2]?=some l/\ ∃A e,ay l 1 1=some [.list 7 A e]/\ (0:Int)<=(0:Int)/\0<=a.2/\a.2<=((List.length e:Nat):Int)/\ ak (α:=Bool×Int) (λj d g=> ab (decide (d.2<((List.length a.1.2:Nat):Int))) (ab d.1 (j (true,(IntKind.wrap .i64 (d.2+1))) g) (0<=d.2/\∃(m:List PV),(a.1.2)[Int.toNat d.2]?=some m/\ ∃r q,ay m 0 1=some [.list 7 r q]/\ aa prog 83 [.list 7 r q,.list 7 .sh (List.drop (Int.toNat (0:Int)) (List.take (Int.toNat a.2) e))] g λy w=> ∃s,y=(pB s)/\ j (s,(IntKind.wrap .i64 (d.2+1))) w)) (ab (!d.1) (aV false 1 24 a.1.1 a.1.2 [[.list 7 .sh (List.drop (Int.toNat (0:Int)) (List.take (Int.toNat a.2) e))]] g λu x=> i ((u,(a.1.2++[[.list 7 .sh (List.drop (Int.toNat (0:Int)) (List.take (Int.toNat a.2) e))]])),(IntKind.wrap .i64 (a.2+1))) x) (i ((a.1.1,a.1.2),(IntKind.wrap .i64 (a.2+1))) g))) (false,0) o) (v ((a.1.1,a.1.2),(IntKind.wrap .i64 (b.2+1))) o)) ((b.1.1,b.1.2),1) n) (K (pI ((List.length b.1.2:Nat):Int)) n)) ((.nil,[]),0) u0):aa prog 33 [.list 3 t f] u0 K:= VC [] [(3,⟨[(3,.one (.list 1)),(4,.one (.raw (.int .i64)))],[]⟩),(6,⟨[(3,.one (.list 1)),(5,.one (.raw (.int .i64)))],[]⟩),(11,⟨[(7,.one (.raw .bool)),(8,.one (.raw (.int .i64)))],[]⟩)] [] [] [] [] [] func33 h
theorem kq.c{b:Option Addr}{f:ByteArray}(h: nP b λm p=> ∃i,aB u0 m (p+6) 1=some [pA i]/\ aa prog 84 [pA i,pS f] u0 λu d=> ∃w y x A z j a k,u=(.aD [.agg [pS w,.list 7 y x,.list 19 A z,.list 1 j a],pB k])/\ ab (!k) (K (pB false) d) (0<=(IntKind.wrap .i64 (((List.length a:Nat):Int)-1))/\∃(g:List PV),(a)[Int.toNat (IntKind.wrap .i64 (((List.length a:Nat):Int)-1))]?=some g/\ ∃e,ay g 0 1=some [pA e]/\ nP e λn q=> ∃l,aB d n (q+11) 1=some [pI l]/\ nP e λo r=> stM o (r+11) [pI (IntKind.wrap .i64 (l-1))] d λs=> aa prog 85 [pA b,.list 1 j a] s λv t=>
 v=(.aD [])/\ K (pB true) t)):aa prog 34 [pA b,pS f] u0 K:= VC [5] [] [] [] [] [] [] func34 h
theorem pC.c{b:Option Addr}{o:ByteArray}(h: aa prog 86 [pA b,pS o] u0 λV k=> ∃a l,V=(.aD [pI a,pB l])/\ ab l (nP b λp E=> ∃W g,aB k p (E+2) 1=some [.list 3 W g]/\ (0:Int)<=(0:Int)/\0<=a/\a<=((List.length g:Nat):Int)/\ nP b λq F=> ∃X d,aB k q (F+2) 1=some [.list 3 X d]/\ 0<=(IntKind.wrap .i64 (a+1))/\(IntKind.wrap .i64 (a+1))<=((List.length d:Nat):Int)/\((List.length d:Nat):Int)<=((List.length d:Nat):Int)/\ aV true 3 64 .nil [] (List.drop (Int.toNat (0:Int)) (List.take (Int.toNat a) g)) k λy O=> aV false 3 64 y ([]++(List.drop (Int.toNat (0:Int)) (List.take (Int.toNat a) g))) (List.drop (Int.toNat (IntKind.wrap .i64 (a+1))) (List.take (Int.toNat ((List.length d:Nat):Int)) d)) O λz P=> nP b λr G=> stM r (G+2) [.list 3 z (([]++(List.drop (Int.toNat (0:Int)) (List.take (Int.toNat a) g)))++(List.drop (Int.toNat (IntKind.wrap .i64 (a+1))) (List.take (Int.toNat ((List.length d:Nat):Int)) d)))] P λm=> nP b λs H=> ∃Y i,aB m s (H+4) 1=some [.list 1 Y i]/\ (0:Int)<=(0:Int)/\0<=a/\a<=((List.length i:Nat):Int)/\ nP b λt I=> ∃Z e,aB m t (I+4) 1=some [.list 1 Z e]/\ 0<=(IntKind.wrap .i64 (a+1))/\(IntKind.wrap .i64 (a+1))<=((List.length e:Nat):Int)/\((List.length e:Nat):Int)<=((List.length e:Nat):Int)/\ aV true 1 24 .nil [] (List.drop (Int.toNat (0:Int)) (List.take (Int.toNat a) i)) m λA Q=> aV false 1 24 A ([]++(List.drop (Int.toNat (0:Int)) (List.take (Int.toNat a) i))) (List.drop (Int.toNat (IntKind.wrap .i64 (a+1))) (List.take (Int.toNat ((List.length e:Nat):Int)) e)) Q λB R=> nP b λu J=> stM u (J+4) [.list 1 B (([]++(List.drop (Int.toNat (0:Int)) (List.take (Int.toNat a) i)))++(List.drop (Int.toNat (IntKind.wrap .i64 (a+1))) (List.take (Int.toNat ((List.length e:Nat):Int)) e)))] R λn=> nP b λv L=> ∃a0 j,aB n v (L+5) 1=some [.list 1 a0 j]/\ (0:Int)<=(0:Int)/\0<=a/\a<=((List.length j:Nat):Int)/\ nP b λw M=> ∃a1 f,aB n w (M+5) 1=some [.list 1 a1 f]/\ 0<=(IntKind.wrap .i64 (a+1))/\(IntKind.wrap .i64 (a+1))<=((List.length f:Nat):Int)/\((List.length f:Nat):Int)<=((List.length f:Nat):Int)/\ aV true 1 8 .nil [] (List.drop (Int.toNat (0:Int)) (List.take (Int.toNat a) j)) n λC S=> aV false 1 8 C ([]++(List.drop (Int.toNat (0:Int)) (List.take (Int.toNat a) j))) (List.drop (Int.toNat (IntKind.wrap .i64 (a+1))) (List.take (Int.toNat ((List.length f:Nat):Int)) f)) S λD T=> nP b λx N=> stM x (N+5) [.list 1 D (([]++(List.drop (Int.toNat (0:Int)) (List.take (Int.toNat a) j)))++(List.drop (Int.toNat (IntKind.wrap .i64 (a+1))) (List.take (Int.toNat ((List.length f:Nat):Int)) f)))] T λU=> K (pB l) U) (K (pB l) k)):aa prog 35 [pA b,pS o] u0 K:= VC [] [] [] [] [] [] [] func35 h
theorem gJ.c{e:Option Addr}(h: nP e λj m=> ∃i d q,aB u0 j (m+7) 1=some [pV i d q]/\ ak (α:=Int×Int) (λl a b=> ab (decide (a.2<((d:Nat):Int))) (cK i λk n=> 0<=a.2/\a.2<((d:Nat):Int)/\ ∃f,aB b k (n+Int.toNat a.2*1) 1=some [pA f]/\ aa prog 82 [pA f] b λp o=> ∃g,p=(pI g)/\ l ((IntKind.wrap .i64 ((IntKind.wrap .i64 (a.1+1))+g)),(IntKind.wrap .i64 (a.2+1))) o) (K (pI a.1) b)) (0,0) u0):aa prog 82 [pA e] u0 K:= VC [] [(3,⟨[(3,.one (.raw (.int .i64))),(11,.one (.raw (.int .i64)))],[]⟩)] [] [] [] [] [8,9] func82 h
theorem fF.c{y z:Fl}{b d:Lq}(h: ab (((List.length b:Nat):Int) != ((List.length d:Nat):Int)) (K (pB false) u0) (ak (α:=Int) (λA a g=> ab (decide (a<((List.length b:Nat):Int))) (0<=a/\∃(e:List PV),(b)[Int.toNat a]?=some e/\ ∃j k l C m D n o E p,ay e 0 7=some [pI j,pB k,pS l,.list 6 C m,.list 6 D n,pB o,.list 7 E p]/\ 0<=a/\∃(f:List PV),(d)[Int.toNat a]?=some f/\ ∃q r s F t G u v H w,ay f 0 7=some [pI q,pB r,pS s,.list 6 F t,.list 6 G u,pB v,.list 7 H w]/\ aa prog 141 [.agg [pI j,pB k,pS l,.list 6 .sh m,.list 6 .sh n,pB o,.list 7 .sh p],.agg [pI q,pB r,pS s,.list 6 .sh t,.list 6 .sh u,pB v,.list 7 .sh w]] g λB i=> ∃x,B=(pB x)/\ ab (!x) (K (pB false) i) (A (IntKind.wrap .i64 (a+1)) i)) (K (pB true) g)) (0) u0)):aa prog 83 [.list 7 y b,.list 7 z d] u0 K:= VC [] [(4,⟨[(5,.one (.raw (.int .i64)))],[]⟩)] [] [] [] [] [] func83 h
end Go.Proofs.YtbodiiomcfgokaaGreat
namespace Go.Proofs.YtbodiiomcfgokaaGreat
open Go.Proofs.Tryz Go.aK
variable {u0:Mem} {K:Kq}
set_option maxRecDepth 100000
theorem kt.c{a m:Int}{b j n t:Bool}{d o:ByteArray}{f i l q s v:Fl}{e g k p r u:Lq}(h: ab (a == m) (ab (b == n) (ab (aJ d o) (ab (j == t) (aa prog 204 [.list 6 f e,.list 6 q p] u0 λC w=> ∃y,C=(pB y)/\ ab y (aa prog 204 [.list 6 i g,.list 6 s r] w λD x=> ∃z,D=(pB z)/\ ab z (aa prog 83 [.list 7 l k,.list 7 v u] x λE B=> ∃A,E=(pB A)/\ K (pB A) B) (K (pB false) x)) (K (pB false) w)) (K (pB false) u0)) (K (pB false) u0)) (K (pB false) u0)) (K (pB false) u0)):aa prog 141 [.agg [pI a,pB b,pS d,.list 6 f e,.list 6 i g,pB j,.list 7 l k],.agg [pI m,pB n,pS o,.list 6 q p,.list 6 s r,pB t,.list 7 v u]] u0 K:= VC [2,3] [] [] [] [] [] [] func141 h
theorem jB.c{E F:Fl}{b d:Lq}(h: ab (((List.length b:Nat):Int) != ((List.length d:Nat):Int)) (K (pB false) u0) (ak (α:=Int) (λG a e=> ab (decide (a<((List.length b:Nat):Int))) (0<=a/\∃(f:List PV),(b)[Int.toNat a]?=some f/\ ∃p,ay f 0 1=some [pI p]/\ 0<=a/\∃(g:List PV),(d)[Int.toNat a]?=some g/\ ∃q,ay g 0 1=some [pI q]/\ ab (p != q) (K (pB false) e) (0<=a/\∃(i:List PV),(b)[Int.toNat a]?=some i/\ ∃r,ay i 1 1=some [pS r]/\ 0<=a/\∃(j:List PV),(d)[Int.toNat a]?=some j/\ ∃s,ay j 1 1=some [pS s]/\ ab (!aJ r s) (K (pB false) e) (0<=a/\∃(k:List PV),(b)[Int.toNat a]?=some k/\ ∃t u v,ay k 2 3=some [pI t,pS u,pI v]/\ 0<=a/\∃(l:List PV),(d)[Int.toNat a]?=some l/\ ∃w x y,ay l 2 3=some [pI w,pS x,pI y]/\ ab (!((t == w)&&(aJ u x&&((v == y)&&true)))) (K (pB false) e) (0<=a/\∃(m:List PV),(b)[Int.toNat a]?=some m/\ ∃A z,ay m 5 1=some [.list 3 A z]/\ 0<=a/\∃(n:List PV),(d)[Int.toNat a]?=some n/\ ∃C B,ay n 5 1=some [.list 3 C B]/\ aa prog 260 [.list 3 A z,.list 3 C B] e λH o=> ∃D,H=(pB D)/\ ab (!D) (K (pB false) o) (G (IntKind.wrap .i64 (a+1)) o))))) (K (pB true) e)) (0) u0)):aa prog 204 [.list 6 E b,.list 6 F d] u0 K:= VC [] [(4,⟨[(5,.one (.raw (.int .i64)))],[]⟩)] [] [] [] [] [] func204 h
theorem kr.c{o p:Fl}{b d:Lq}(h: ab (((List.length b:Nat):Int) != ((List.length d:Nat):Int)) (K (pB false) u0) (ak (α:=Int) (λq a e=> ab (decide (a<((List.length b:Nat):Int))) (0<=a/\∃(f:List PV),(b)[Int.toNat a]?=some f/\ ∃i j k,ay f 0 3=some [pI i,pS j,pI k]/\ 0<=a/\∃(g:List PV),(d)[Int.toNat a]?=some g/\ ∃l m n,ay g 0 3=some [pI l,pS m,pI n]/\ ab (!((i == l)&&(aJ j m&&((k == n)&&true)))) (K (pB false) e) (q (IntKind.wrap .i64 (a+1)) e)) (K (pB true) e)) (0) u0)):aa prog 260 [.list 3 o b,.list 3 p d] u0 K:= VC [] [(4,⟨[(5,.one (.raw (.int .i64)))],[]⟩)] [] [] [] [] [] func260 h
end Go.Proofs.YtbodiiomcfgokaaGreat
namespace Go.aK
open Go.RowKit
section
variable {P:Program} {w:World} {n:Nat} {t:TypeId} {cs:List Value}
section
variable {H:Type} {enc:TypeId×Value->H} {r:Reach} {base:Nat} {v:Value} {d:DataW H} {p:List MemPlace}
theorem mM{k:IntKind}(ht:P.underlying t=some (.int k))(hv:Value.okWide P w r base t v)(h:DataW.Trod enc P w 0 (λ_=>true) true t v d p):∃i,cy (gA w) (.raw (.int k i)) v/\(Lit.int k i).wf=true:=by
 obtain⟨i,rfl⟩:=WideShapes.okWide_int ht hv
 obtain⟨n,hn⟩:=Reads.of h
 obtain⟨j,e,hw⟩:=hn.int ht
 simp[Value.cells]at e
 subst e
 exact⟨_,.raw _ rfl rfl,hw⟩
end
end
end Go.aK
namespace Go.Proofs.YtbodiiomcfgokaaGreat
open Go.Proofs.Tryz Go.aK Go.RowKit
def dy(v:Int)(n:Nat):Nat:=(if Int.tmod v n<0 then Int.tmod v n+n else Int.tmod v n).toNat
theorem jo(v:Int){n:Nat}(h:1<=n):dy v n<n:=by
 unfold dy
 have h1:=Int.tmod_lt_of_pos v (show(0:Int)<(n:Int) by omega)
 have h2:=Int.lt_tmod_of_pos v (show(0:Int)<(n:Int) by omega)
 split<;>omega
theorem nZ(v:Int)(n:Nat)(h1:1<=n)(h2:n<=1000000):Pure prog 31 [pI v,pI (n:Nat)] (pI (dy v n:Nat)):=by
 refine ao.of (eX.c ?_)
 have hm:=Int.tmod_lt_of_pos v (show(0:Int)<(n:Int) by omega)
 have Wk:=Int.lt_tmod_of_pos v (show(0:Int)<(n:Int) by omega)
 refine ab.f (by simp;omega) ⟨by omega,ab.mk (λh=>?_) (λh=>?_)⟩
 ·have h:=of_decide_eq_true h
  rw[az (by omega) (by omega)]
  simp only[wk,aK.cH,dy]
  rw[if_pos h]
  congr 2;omega
 ·have h:=of_decide_eq_false h
  simp only[wk,aK.cH,dy]
  rw[if_neg h]
  congr 2;omega
theorem SN(f g:Fl)(l m:List Sym)(hl:l.length<=1000000000):aZ 260 [.list 3 f (l.map Sym.pv),.list 3 g (m.map Sym.pv)] (l=m):=by
 refine ao.of (kr.c (ab.mk (λh=>aZ.no (i_ h)) (λh=>?_)))
 refine fE (l:=l) (m:=m) (n:=l.length) rfl (ix h) (by omega) (λk hk bW u next hy cm=>?_) (λu next e=>ab.f (by simp) (aZ.yes e))
 refine ab.t (by simpa using hk) ⟨by omega,_,aw hk,_,_,_,rfl,by omega,_,aw bW,_,_,_,rfl,ab.mk (λh=>aZ.no (cm λe=>?_)) (λh=>hy (cF.1 (nt h)) _)⟩
 have h':gf l[k] m[k]=false:=nb h
 rw[cF.2 e]at h';cases h'
theorem CL(f g:Fl)(l m:List Test)(hl:l.length<=1000000000)(ht:∀t∈l,t.list.length<=1000000000):aZ 204 [.list 6 f (l.map Test.pv),.list 6 g (m.map Test.pv)] (l=m):=by
 refine ao.of (jB.c (ab.mk (λh=>aZ.no (i_ h)) (λh=>?_)))
 refine fE (l:=l) (m:=m) (n:=l.length) rfl (ix h) (by omega) (λk hk bW u next hy cm=>?_) (λu next e=>ab.f (by simp) (aZ.yes e))
 refine ab.t (by simpa using hk) ⟨by omega,_,aw hk,_,rfl,by omega,_,aw bW,_,rfl,ab.mk (λh1=>aZ.no (cm λe=>?_)) (λh1=>⟨by omega,_,aw hk,_,rfl,by omega,_,aw bW,_,rfl,ab.mk (λh2=>aZ.no (cm λe=>?_)) (λh2=>⟨by omega,_,aw hk,_,_,_,rfl,by omega,_,aw bW,_,_,_,rfl,ab.mk (λh3=>aZ.no (cm λe=>?_)) (λh3=>⟨by omega,_,aw hk,_,_,rfl,by omega,_,aw bW,_,_,rfl,?_⟩)⟩)⟩)⟩
 ·rw[e]at h1;simp at h1
 ·rw[e,dX]at h2;cases h2
 ·have:=nb h3
  rw[show((l[k].sym.k == m[k].sym.k)&&(aJ l[k].sym.t m[k].sym.t&&((l[k].sym.n == m[k].sym.n)&&true)))=true from cF.2 (by rw[e])]at this;cases this
 ·refine(SN _ _ l[k].list m[k].list (ht _ (List.getElem_mem hk))).call (λe=>⟨_,rfl,ab.f rfl (hy (BN (by simpa using h1) (bI.1 (nt h2)) (cF.1 (nt h3)) e) _)⟩) (λaT=>⟨_,rfl,ab.t rfl (aZ.no (cm λe=>aT (by rw[e])))⟩)
theorem Mr(n:Nat)(ih:∀(f g:Fl) (l m:List ae),aj l<=n->aj l<=1000000->bD l->aZ 83 [.list 7 f (l.map ae.pv),.list 7 g (m.map ae.pv)] (l=m))(c d:ae)(hs:aj c.conds<=n)(h6:aj c.conds<=1000000)(hl:cr c):aZ 141 [.agg [pI c.kind,pB c.goal,pS c.id,.list 6 .sh (c.attr.map Test.pv),.list 6 .sh (c.value.map Test.pv),pB c.acc,.list 7 .sh (c.conds.map ae.pv)],.agg [pI d.kind,pB d.goal,pS d.id,.list 6 .sh (d.attr.map Test.pv),.list 6 .sh (d.value.map Test.pv),pB d.acc,.list 7 .sh (d.conds.map ae.pv)]] (c=d):=by
 obtain⟨_,l1,l2,l3,l4,l5⟩:=(bu c).1 hl
 refine ao.of (kt.c ?_)
 refine ab.mk (λh1=>ab.mk (λh2=>ab.mk (λh3=>ab.mk (λh4=>?_) (λh=>aZ.no λe=>?_)) (λh=>aZ.no λe=>?_)) (λh=>aZ.no λe=>?_)) (λh=>aZ.no λe=>?_)
 ·refine(CL _ _ c.attr d.attr (by omega) (λt ht=>by have:=cI l3 t ht;omega)).call (λe1=>⟨_,rfl,ab.t rfl ?_⟩) (λaT=>⟨_,rfl,ab.f rfl (aZ.no λe=>aT (by rw[e]))⟩)
  refine(CL _ _ c.value d.value (by omega) (λt ht=>by have:=cI l4 t ht;omega)).call (λe2=>⟨_,rfl,ab.t rfl ?_⟩) (λaT=>⟨_,rfl,ab.f rfl (aZ.no λe=>aT (by rw[e]))⟩)
  refine(ih .sh .sh c.conds d.conds hs h6 l5).call (λe3=>⟨_,rfl,aZ.yes (yx (by simpa using h1) (by simpa using h2) (bI.1 h3) e1 e2 (by simpa using h4) e3)⟩) (λaT=>⟨_,rfl,aZ.no λe=>aT (by rw[e])⟩)
 ·subst e;simp at h
 ·subst e;rw[dX]at h;cases h
 ·subst e;simp at h
 ·subst e;simp at h
theorem Mq:∀(n:Nat) (f g:Fl) (l m:List ae),aj l<=n->aj l<=1000000->bD l->aZ 83 [.list 7 f (l.map ae.pv),.list 7 g (m.map ae.pv)] (l=m):=by
 intro n
 induction n with
 |zero=>
  intro f g l m h _ _
  have:l=[]:=by
   cases l with
   |nil=>rfl
   |cons c l=>simp[aj,bM]at h
  subst this
  refine ao.of (fF.c (ab.mk (λh=>aZ.no (i_ h)) (λh=>?_)))
  refine fE (l:=[]) (m:=m) (n:=0) rfl (ix h) (by omega) (λk hk=>by simp at hk) (λu next e=>ab.f (by simp) (aZ.yes e))
 |succ n ih=>
  intro f g l m h h6 hl
  have sM:=ch l
  refine ao.of (fF.c (ab.mk (λh=>aZ.no (i_ h)) (λh=>?_)))
  refine fE (l:=l) (m:=m) (n:=l.length) rfl (ix h) (by omega) (λk hk bW u next hy cm=>?_) (λu next e=>ab.f (by simp) (aZ.yes e))
  have hm:=eM (List.getElem_mem hk)
  refine ab.t (by simpa using hk) ⟨by omega,_,aw hk,_,_,_,_,_,_,_,_,_,_,iI _,by omega,_,aw bW,_,_,_,_,_,_,_,_,_,_,iI _,?_⟩
  refine(Mr n ih l[k] m[k] (by omega) (by omega) (bH.1 hl _ (List.getElem_mem hk))).call (λe=>⟨_,rfl,ab.f rfl (hy e _)⟩) (λaT=>⟨_,rfl,ab.t rfl (aZ.no (cm aT))⟩)
namespace RP
theorem mN{k:KY}{a0:Option Addr}{u0:Mem}{K:Kq}(h:M.drop a0 u0 K (db k) 132 142):aa prog 84 [pA a0,db k] u0 K:=VC [4,6] [] [(5,⟨[(7,.one (.raw .ptr)),(8,.one (.raw .bool))],[]⟩),(7,⟨[],[]⟩)] [] [] [] [] func84 h
def jA:=Hy.jA lq ia mN
end RP
def cN(T:Tree)(p:Path):Nat:=(T.D.filter λq=>decide (p <+: q)).length
theorem oB.EH{T:Tree}(h:oB T){p:Path}(hp:p∈T.D):cN T p=1+((T.K p).map λc=>cN T (p++[c])).sum:=by
 have e:(1+((T.K p).map λc=>cN T (p++[c])).sum)=(p::(T.K p).flatMap λc=>T.D.filter λq=>decide ((p++[c]) <+: q)).length:=by
  rw[List.length_cons,List.length_flatMap,Nat.add_comm];rfl
 rw[e]
 unfold cN
 refine qb (h.nodup.filter _) ?_ λq=>?_
 ·refine List.nodup_cons.2 ⟨λhm=>?_,?_⟩
  ·obtain⟨c,_,hc⟩:=List.mem_flatMap.1 hm
   have:=(List.mem_filter.1 hc).2
   have cZ:(p++[c]) <+: p:=by simpa using this
   have h9:=cZ.length_le
   rw[List.length_append,List.length_singleton]at h9
   omega
  ·have hk:=h.Bt p hp
   generalize T.K p=K at hk
   induction K with
   |nil=>exact List.nodup_nil
   |cons c K ih=>
    obtain⟨h1,h2⟩:=List.nodup_cons.1 hk
    rw[List.flatMap_cons]
    refine List.nodup_append.2 ⟨h.nodup.filter _,ih h2,λa ha b hb e=>?_⟩
    subst e
    obtain⟨c',rI,iK⟩:=List.mem_flatMap.1 hb
    have q1:(p++[c]) <+: a:=by simpa using(List.mem_filter.1 ha).2
    have q2:(p++[c']) <+: a:=by simpa using(List.mem_filter.1 iK).2
    have e2:p++[c]=p++[c']:=by
     rcases List.prefix_or_prefix_of_prefix q1 q2 with h3|h3
     ·exact h3.eq_of_length (by simp)
     ·exact(h3.eq_of_length (by simp)).symm
    have:c=c':=by simpa using e2
    exact h1 (this▸rI)
 ·rw[List.mem_filter,List.mem_cons,List.mem_flatMap]
  constructor
  ·rintro⟨hq,cZ⟩
   by_cases e:q=p
   ·exact .inl e
   ·obtain⟨c,hc,h2⟩:=(h.below hp hq).1 ⟨by simpa using cZ,e⟩
    exact .inr ⟨c,hc,List.mem_filter.2 ⟨hq,by simpa using h2⟩⟩
  ·rintro(rfl|⟨c,hc,hm⟩)
   ·exact⟨hp,by simp⟩
   ·obtain⟨hq,h2⟩:=List.mem_filter.1 hm
    have h2:(p++[c]) <+: q:=by simpa using h2
    exact⟨hq,by simpa using((List.prefix_append p [c]).trans h2)⟩
theorem lp(T:Tree):cN T []=T.D.length:=by
 unfold cN
 rw[List.filter_eq_self.2 λq _=>by simp]
theorem re(T:Tree)(p:Path):cN T p<=T.D.length:=List.length_filter_le _ _
section
variable {T:Tree} {fr:Path->List cf} {mn:Path->List Nat}
theorem wD(h:oB T){tk:Path->List cf}{ct:Path->List Nat}:∀(n:Nat) (p:Path),p∈T.D->17-p.length<=n->∀{L:List aY} {μ:Mem},Ow (cb T tk ct fr mn::L) μ->∀{K:Kq},(∀μ',Ow (cb T tk ct fr mn::L) μ'->K (pI ((cN T p-1:Nat):Int)) μ')->aa prog 82 [pP (T.B p) 0] μ K:=by
 intro n
 induction n with
 |zero=>intro p hp hn;have:=h.len p hp;omega
 |succ n ih=>
  intro p hp hn L μ hO K hk
  have ui:=h.Bg
  obtain⟨F,hF⟩:=cb.rd hp hO
  have HQ:=h.EH hp
  have hle:=re T p
  have dQ:∀i,(((T.K p).take i).map λc=>cN T (p++[c])).sum<=((T.K p).map λc=>cN T (p++[c])).sum:=λi=>by
   conv=>rhs;rw[<- List.take_append_drop i (T.K p)]
   rw[List.map_append,List.sum_append];omega
  have ED:=h.kl hp
  refine gJ.c ⟨_,_,_,aE hF (by simp),?_⟩
  refine ak.dm (n:=(T.K p).length) (by omega) (λi s u=>s=(((((T.K p).take i).map λc=>cN T (p++[c])).sum:Nat):Int)/\Ow (cb T tk ct fr mn::L) u) ⟨by simp,hO⟩ ?_ ?_
  ·rintro i s u next hi ⟨rfl,h2⟩ ar
   have po:=h.HE hp hi
   obtain⟨b,hb,fB⟩:=cb.Zn hp h2 hi
   dsimp only[gK]
   rw[hb]
   refine ab.t (by simpa using hi) ⟨by omega,by simpa using hi,_,?_,ih _ po (by simp;omega) h2 λu' h3=>⟨_,rfl,ar _ _ ⟨?_,h3⟩⟩⟩
   ·simpa using fB
   ·have h4:=dQ (i+1)
    have h5:(((T.K p).take (i+1)).map λc=>cN T (p++[c])).sum=(((T.K p).take i).map λc=>cN T (p++[c])).sum+cN T (p++[(T.K p)[i]]):=by
     rw[dT hi,List.sum_append];simp
    have h6:=h.EH po
    have w1:IntKind.wrap .i64 ((((((T.K p).take i).map λc=>cN T (p++[c])).sum:Nat):Int)+1)=(((((T.K p).take i).map λc=>cN T (p++[c])).sum:Nat):Int)+1:=az (by omega) (by omega)
    rw[w1,az (by omega) (by omega)]
    omega
  ·rintro s u next ⟨rfl,h2⟩
   refine ab.f (by simp) ?_
   have:=hk u h2
   rw[List.take_length]
   rw[show cN T p-1=((T.K p).map λc=>cN T (p++[c])).sum from by omega]at this
   exact this
end
open K6
theorem qp{ps:List Prod}(hu:ca aI cM ps){q:Prod}(hq:q∈ps):ps.Perm (q::bq aI cM (cM q) ps):=by
 obtain⟨A,B,e,ed,_⟩:=hu.at_ aP hq
 rw[ed]
 conv=>lhs;rw[e]
 exact List.perm_middle
section
variable {n:Nat} {x:NC} {es:List af} {ms:dL} {ids:pt} {T:Tree} {tk:Path->List cf} {ct:Path->List Nat} {fr:Path->List cf} {mn:Path->List Nat} {ps:List Prod} {w:Nat} {W:Path->Prop}
theorem pd.drop(h:pd x T es ms ids tk ct ps w (λ_=>False)){q:Prod}(hq:q∈ps):pd x (T.ends q.conds (T.E q.conds-1)) es ms ids tk ct (bq aI cM (cM q) ps) w (λr=>r <+: q.conds):=by
 have mu:=qp h.si hq
 have eZ:∀r∈bq aI cM (cM q) ps,r∈ps:=λr hr=>((eF aP).1 hr).1
 refine⟨h.core.ends,λr hr AP hW=>?_,h.ids,h.root,h.tb,h.mb,h.si.del _,λr hr=>h.rE r (eZ r hr),λr hr=>h.pD r (eZ r hr),λr hr=>?_,h.tags,Nat.le_trans (List.length_filter_le _ _) h.xt,h.dl⟩
 ·have hW:¬r <+: q.conds:=hW
  have aT:r≠q.conds:=λe=>hW (by rw[e];exact List.prefix_refl _)
  show T.K r≠[]\/0<aQ T.E q.conds _ r
  rw[aX aT]
  exact h.uf r hr AP λh=>h
 ·show aQ T.E q.conds _ r=_
  have h1:=h.ends r hr
  rw[(mu.filter _).length_eq,List.filter_cons]at h1
  by_cases e:r=q.conds
  ·rw[if_pos (by simp[e]),List.length_cons]at h1
   rw[e]at h1 |-
   rw[cW,h1];rfl
  ·rw[if_neg (by simpa using λe'=>e e'.symm)]at h1
   rw[aX e,h1]
theorem DV(hw:w<=100)(s:ByteArray){L:List aY}{μ:Mem}(hO:Ow (bR n x es ps w::L) μ){K:Kq}
  (jw:∀q,aL aI cM s ps=some q->∀μ',Ow (bR n x es (bq aI cM s ps) w::L) μ'->K (pB true) μ')
  (EE:aL aI cM s ps=none->∀μ',Ow (bR n x es ps w::L) μ'->K (pB false) μ'):
  aa prog 34 [pP n 0,pS s] μ K:=by
 obtain⟨T,ms,ids,tk,ct,fr,mn,⟨hR,dQ⟩,h1⟩:=bR.open_ hO
 have aiH:=hR.xt
 refine kq.c ?_
 refine⟨_,aE (an.qz (x:=x) (es:=es) (ms:=ms) (ids:=ids) h1 (by simp)) (by simp),?_⟩
 refine RP.jA (Ow.at 2 rfl h1) hR.u (by rw[List.length_map];omega) s (λy u hy h2=>?_) (λu hy h2=>?_)
 ·rw[iL]at hy
  obtain⟨q,hq,rfl⟩:=Option.map_eq_some_iff.1 hy
  obtain⟨Dv,Qz⟩:=(aM aP hR.si).1 hq
  obtain⟨_,_,_,_,_,g1,g2⟩:=(hR.rE q Dv).facts
  have rR:=hR.pD q Dv
  have hE:=zO hR Dv
  have afG:T.E q.conds<=100:=by
   rw[hR.ends _ rR];exact Nat.le_trans (List.length_filter_le _ _) (by omega)
  obtain⟨w1,w2⟩:=tC T.B g1 (by omega)
  refine⟨_,_,_,_,_,_,_,_,rfl,ab.f rfl ⟨w2,_,w1,_,rfl,?_⟩⟩
  dsimp only[nP,nn,aF]
  have e1:bq RP.ck RP.key (RP.key (s,RP.z)) (ps.map (fZ T.B))=(bq aI cM s ps).map (fZ T.B):=sX
  rw[e1]at h2
  have h3:Ow (cb T tk ct fr mn::an n x es ms ids::RP.cU x.pr ((bq aI cM s ps).map (fZ T.B))::RT.At x.el es::L) u:=Ow.ord [2,1] h2
  obtain⟨A,B,F,eD,h4⟩:=cb.out rR h3
  refine⟨_,h4.rd 0 rfl (by simp),?_⟩
  refine h4.st 0 rfl (by simp) λu2 h5=>?_
  have RH:IntKind.wrap .i64 (((T.E q.conds:Nat):Int)-1)=((T.E q.conds-1:Nat):Int):=by rw[az (by omega) (by omega)];omega
  rw[RH]at h5
  have h6:=cb.ends hR.core.tree.nodup eD h5
  have TI:s=cM q:=Qz.symm
  have Ur:pd x (T.ends q.conds (T.E q.conds-1)) es ms ids tk ct (bq aI cM s ps) w (λr=>r <+: q.conds):=by rw[TI];exact hR.drop Dv
  refine Il q.conds (by omega) Ur.core rR Ur.uf Ur.root _ (Ow.swap h6) λT' We u5 hC3 hN3 Uw hE3 eZ oV h7=>⟨rfl,?_⟩
  refine jw q hq _ (bR.shut (fr:=fr) (mn:=mn) (Ur.Hp hC3 hN3 Uw hE3 eZ oV) ?_ ?_)
  ·have h8:=pX (es:=es) (qp hR.si Dv)
   rw[<- TI]at h8
   have h9:bK es (q::bq aI cM s ps)=(au es q.conds).length+bK es (bq aI cM s ps):=by unfold bK;simp
   omega
  ·show Ow (an n x es We ids::cb T' tk ct fr mn::RP.cU x.pr ((bq aI cM s ps).map (fZ T'.B))::RT.At x.el es::L) u5
   rw[Uw]
   exact h7
 ·rw[iL]at hy
  refine⟨_,_,_,_,_,_,_,_,rfl,ab.t rfl (EE ?_ u (bR.shut (fr:=fr) (mn:=mn) hR dQ (Ow.ord [1,1] h2)))⟩
  cases hg:aL aI cM s ps with
  |some z=>rw[hg]at hy;cases hy
  |none=>rfl
end
section
variable {n:Nat} {x:NC} {es:List af} {ps:List Prod} {w:Nat}
theorem pd.nB{ms:dL}{ids:pt}{T:Tree}{tk:Path->List cf}{ct:Path->List Nat}(h:pd x T es ms ids tk ct ps w (λ_=>False)):∀r,r∈T.D/\r≠[]↔r≠[]/\∃p∈ps,r <+: p.conds:=by
 have key:∀(m:Nat) (r:Path),r∈T.D->r≠[]->17-r.length<=m->∃p∈ps,r <+: p.conds:=by
  intro m
  induction m with
  |zero=>intro r hr _ hm;have:=h.core.tree.len r hr;omega
  |succ m ih=>
   intro r hr AP hm
   rcases h.uf r hr AP (λh=>h)with hk|he
   ·cases hK:T.K r with
    |nil=>exact absurd hK hk
    |cons d l=>
     have hd:r++[d]∈T.D:=(h.core.tree.kids r hr d).1 (by rw[hK];simp)
     obtain⟨p,hp,cZ⟩:=ih (r++[d]) hd (by simp) (by simp;omega)
     exact⟨p,hp,List.IsPrefix.trans (List.prefix_append _ _) cZ⟩
   ·rw[h.ends r hr]at he
    obtain⟨p,hp⟩:=List.exists_mem_of_length_pos he
    obtain⟨h1,h2⟩:=List.mem_filter.1 hp
    have h2:p.conds=r:=by simpa using h2
    exact⟨p,h1,by rw[h2];exact List.prefix_refl _⟩
 intro r
 constructor
 ·rintro⟨h1,h2⟩
  exact⟨h2,key 17 r h1 h2 (by omega)⟩
 ·rintro⟨h2,p,hp,cZ⟩
  exact⟨h.core.tree.xR (h.pD p hp) cZ,h2⟩
theorem mS{L:List aY}{μ:Mem}(hO:Ow (bR n x es ps w::L) μ){K:Kq}(hk:∀D:List Path,D.Nodup->(∀r,r∈D↔r≠[]/\∃p∈ps,r <+: p.conds)->∀μ',Ow (bR n x es ps w::L) μ'->K (pI ((D.length:Nat):Int)) μ'):aa prog 32 [pP n 0] μ K:=by
 obtain⟨T,ms,ids,tk,ct,fr,mn,⟨hR,dQ⟩,h1⟩:=bR.open_ hO
 have EY:=hR.core.tree.root
 refine ee.c ⟨_,aE (an.qz (x:=x) (es:=es) (ms:=ms) (ids:=ids) h1 (by simp)) (by simp),?_⟩
 rw[hR.root]
 refine wD hR.core.tree 17 [] EY (by simp) (Ow.ord [1] h1) λu h2=>⟨_,rfl,?_⟩
 have hlen:cN T []-1=(T.D.filter λr=>decide (r≠[])).length:=by
  rw[lp]
  obtain⟨A,B,e⟩:=List.append_of_mem EY
  rw[ni hR.core.tree e,e]
  simp
 rw[hlen]
 refine hk _ (hR.core.tree.nodup.filter _) (λr=>?_) u (bR.shut hR dQ (Ow.ord [1] h2))
 rw[<- hR.nB r,List.mem_filter]
 simp
end
theorem ns{α:Type}(f:α->Nat)(p:α->Bool):∀l:List α,((l.filter p).map f).sum<=(l.map f).sum
 |[]=>Nat.le_refl _
 |x::l=>by
  have:=ns f p l
  rw[List.filter_cons]
  split<;>simp only[List.map_cons,List.sum_cons]<;>omega
theorem Cq{es:List af}{A P:List Prod}(hA:ca aI cM A)(hP:ca aI cM P)(h:∀q∈A,q∈P):bK es A<=bK es P:=by
 classical
 have e:A=P.filter λq=>decide (q∈A):=ca.ext aP hA (hP.filter _) λq=>by
  rw[List.mem_filter,decide_eq_true_eq]
  exact⟨λhq=>⟨h q hq,hq⟩,λhq=>hq.2⟩
 rw[e]
 unfold bK
 exact ns _ _ _
theorem sH{α:Type}{a b:List α}(ha:a.Nodup)(hb:b.Nodup)(h:∀x,x∈a↔x∈b):a.length=b.length:=((List.perm_ext_iff_of_nodup ha hb).2 h).length_eq
theorem QR{α:Type}{l:List α}{k:Nat}(hk:k<l.length){p:α->Bool}(h0:p l[k]=false)(h1:∀(i:Nat) (hi:i<l.length),i≠k->p l[i]=true):l.filter p=l.take k++l.drop (k+1):=by
 have e:l.filter p=(l.take k++l[k]::l.drop (k+1)).filter p:=by rw[<- List.drop_eq_getElem_cons hk,List.take_append_drop]
 rw[e,List.filter_append,List.filter_cons,if_neg (by simp[h0])]
 congr 1
 ·refine List.filter_eq_self.2 λx hx=>?_
  obtain⟨i,hi,rfl⟩:=List.mem_iff_getElem.1 hx
  rw[List.length_take]at hi
  rw[List.getElem_take]
  exact h1 i (by omega) (by omega)
 ·refine List.filter_eq_self.2 λx hx=>?_
  obtain⟨i,hi,rfl⟩:=List.mem_iff_getElem.1 hx
  rw[List.length_drop]at hi
  rw[List.getElem_drop]
  exact h1 _ (by omega) (by omega)
theorem UL{ps:List Prod}(hu:ca aI cM ps){i:Nat}(hi:i<ps.length):ps.take i++ps.drop (i+1)=bq aI cM ps[i].name ps:=by
 symm
 refine QR hi ?_ λj hj LI=>?_
 ·have:DQ aI cM ps[i].name ps[i]=true:=by unfold DQ;simp[aP.zero,cM]
  rw[this];rfl
 ·have:¬DQ aI cM ps[i].name ps[j]=true:=by
   unfold DQ
   simp only[decide_eq_true_eq,aP.zero]
   intro e
   have e:ps[j].name=ps[i].name:=e
   rcases Nat.lt_or_gt_of_ne LI with h|h
   ·have h2:aI ps[j].name ps[i].name<0:=List.pairwise_iff_getElem.1 hu j i hj hi h
    rw[e,aP.self]at h2;omega
   ·have h2:aI ps[i].name ps[j].name<0:=List.pairwise_iff_getElem.1 hu i j hi hj h
    rw[e,aP.self]at h2;omega
  simpa using this
theorem ra{ps:List Prod}(hu:ca aI cM ps){i:Nat}(hi:i<ps.length):aL aI cM ps[i].name ps=some ps[i]:=(aM aP hu).2 ⟨List.getElem_mem hi,rfl⟩
section
variable {r:Nat} {x:tq}
theorem jf.del(h:jf x){i:Nat}(hi:i<x.ps.length):jf ⟨x.B,x.M,bq aI cM x.ps[i].name x.ps,x.es,(bq aI cM x.ps[i].name x.ps).map (qA x.es),(bq aI cM x.ps[i].name x.ps).map (oP x.es)⟩:=by
 have eZ:∀q∈bq aI cM x.ps[i].name x.ps,q∈x.ps:=λq hq=>((eF aP).1 hq).1
 refine⟨h.b,h.m,h.si.del _,λq hq=>h.rE q (eZ q hq),Nat.le_trans sY h.Bg,h.en,h.ne,rfl,rfl,λq hq=>h.le q (eZ q hq),?_⟩
 have h1:bK x.es (bq aI cM x.ps[i].name x.ps)<=bK x.es x.ps:=Cq (h.si.del _) h.si eZ
 have h2:=h.sum
 show((bK x.es (bq aI cM x.ps[i].name x.ps):Nat):Int)<=x.M
 omega
theorem Vs(h:jf x)(s:ByteArray){L:List aY}{μ:Mem}(hO:Ow (aW r x::L) μ){K:Kq}
  (h1:∀q,aL aI cM s x.ps=some q->∀x' μ',jf x'->x'.B=x.B->x'.M=x.M->x'.es=x.es->x'.ps=bq aI cM s x.ps->Ow (aW r x'::L) μ'->K (pB true) μ')
  (h0:aL aI cM s x.ps=none->K (pB false) μ):
  aa prog 35 [pP r 0,pS s] μ K:=by
 have ui:=h.Bg
 refine pC.c ?_
 refine Nq s (by omega) hO (λbU=>⟨_,_,rfl,ab.f rfl (h0 ((bx aP).2 bU))⟩) λi hi he=>⟨_,_,rfl,ab.t rfl ?_⟩
 subst he
 have Ui:=UL h.si hi
 have LD:=h.del hi
 have iB:=h.tk
 have hmo:=h.mo
 obtain⟨f,jd⟩:=aW.open_ hO
 have e0:Int.toNat (0:Int)=0:=rfl
 have ei:Int.toNat ((i:Nat):Int)=i:=rfl
 have ei1:IntKind.wrap .i64 (((i:Nat):Int)+1)=((i+1:Nat):Int):=by rw[az (by omega) (by omega)];rfl
 have ei2:Int.toNat ((i+1:Nat):Int)=i+1:=rfl
 rw[ei1]
 have zC:x.tk.length=x.ps.length:=by rw[iB,List.length_map]
 have zD:x.mo.length=x.ps.length:=by rw[hmo,List.length_map]
 have cut:∀{T:Type} (l:List T) (g:T->List PV),([]++List.drop (Int.toNat (0:Int)) (List.take (Int.toNat ((i:Nat):Int)) (l.map g)))=(l.take i).map g:=λl g=>by
  rw[e0,ei,List.drop_zero,<- List.map_take,List.nil_append]
 have ab9:∀{T:Type} (l:List T) (g:T->List PV),List.drop (Int.toNat (0:Int)) (List.take (Int.toNat ((i:Nat):Int)) (l.map g))=(l.take i).map g:=λl g=>by
  rw[e0,ei,List.drop_zero,<- List.map_take]
 have rest:∀{T:Type} (l:List T) (g:T->List PV),List.drop (Int.toNat ((i+1:Nat):Int)) (List.take (Int.toNat (((l.map g).length:Nat):Int)) (l.map g))=(l.drop (i+1)).map g:=λl g=>by
  rw[ei2,Int.toNat_natCast,List.take_length,<- List.map_drop]
 refine⟨_,_,jd.rd 0 rfl (by simp),by omega,by omega,by simp;omega,_,_,jd.rd 0 rfl (by simp),by omega,by simp;omega,by omega,?_⟩
 rw[cut x.ps Prod.pv,ab9 x.ps Prod.pv,rest x.ps Prod.pv]
 refine Ow.Nz jd (by simp;omega) (by simp;omega) λf1 u1 h2=>h2.app (by simp) (by simp;omega) (by simp;omega) λf2 u2 h3=>?_
 dsimp only[nP,nn,aF]
 refine h3.st 1 rfl (by simp) λu3 h4=>?_
 rw[<- List.map_append,Ui]at h4
 refine⟨_,_,h4.rd 1 rfl (by simp[dN]),by omega,by omega,by simp[zC];omega,_,_,h4.rd 1 rfl (by simp[dN]),by omega,by simp[zC];omega,by omega,?_⟩
 rw[cut x.tk oI,ab9 x.tk oI,rest x.tk oI]
 have xq:(x.tk.take i).map oI++(x.tk.drop (i+1)).map oI=((bq aI cM x.ps[i].name x.ps).map (qA x.es)).map oI:=by
  rw[<- Ui,iB,<- List.map_take,<- List.map_drop,<- List.map_append,<- List.map_append]
 have mo':(x.mo.take i).map jv++(x.mo.drop (i+1)).map jv=((bq aI cM x.ps[i].name x.ps).map (oP x.es)).map jv:=by
  rw[<- Ui,hmo,<- List.map_take,<- List.map_drop,<- List.map_append,<- List.map_append]
 refine Ow.Nz h4.drop (by simp;omega) (by simp;omega) λf3 u4 h5=>h5.app (by simp) (by simp;omega) (by simp;omega) λf4 u5 h6=>?_
 refine h6.st 1 rfl (by simp[dN]) λu6 h7=>?_
 rw[xq]at h7
 refine⟨_,_,h7.rd 1 rfl (by simp[dN]),by omega,by omega,by simp[zD];omega,_,_,h7.rd 1 rfl (by simp[dN]),by omega,by simp[zD];omega,by omega,?_⟩
 rw[cut x.mo jv,ab9 x.mo jv,rest x.mo jv]
 refine Ow.Nz h7.drop (by simp;omega) (by simp;omega) λf5 u7 h8=>h8.app (by simp) (by simp;omega) (by simp;omega) λf6 u8 h9=>?_
 refine h9.st 1 rfl (by simp[dN]) λu9 qk=>?_
 rw[mo']at qk
 exact h1 _ (ra h.si hi) _ _ LD rfl rfl rfl rfl (aW.shut (x:=⟨x.B,x.M,bq aI cM x.ps[i].name x.ps,x.es,(bq aI cM x.ps[i].name x.ps).map (qA x.es),(bq aI cM x.ps[i].name x.ps).map (oP x.es)⟩) (f:=(f2,f.2.1,f4,f6)) qk.drop)
end
theorem qS{p:Prod}(h:lb p):kO p:=⟨h.1,by have:=h.2.1;omega,by have:=h.2.2.1;omega⟩
theorem iz(f:Fl)(ps:List Prod)(n:Nat)(hn:n<=1000000):ao prog 30 [.list 3 f (ps.map Prod.pv),pI (n:Nat)] λv=>∃q:Bool,v=pB q/\(q=false->ps.length<=n/\∀p∈ps,kO p):=by
 refine ao.of (cG.c (ab.mk (λ_=>⟨true,rfl,λh=>by cases h⟩) (λh=>?_)))
 have hl:ps.length<=n:=by simpa using h
 refine ak.each (n:=ps.length) (by omega) (λk _=>∀p∈ps.take k,kO p) (by simp) (λk u next hk hI ar=>?_) (λu next hI=>ab.f (by simp) ⟨false,rfl,λ_=>⟨hl,by rwa [List.take_length]at hI⟩⟩)
 refine ab.t (by simpa using hk) ⟨by omega,_,aw hk,_,_,_,_,_,rfl,(wy .sh .sh ps[k]).call ?_⟩
 rintro _ ⟨q,rfl,hq⟩
 refine⟨_,rfl,ab.mk (λ_=>⟨true,rfl,λh=>by cases h⟩) (λhf=>ar _ λp hp=>?_)⟩
 rcases(dg hk).1 hp with hp|rfl
 ·exact hI p hp
 ·exact qS (hq hf)
theorem FW{p q:List ae}(h:q <+: p)(hl:bD p):bD q:=bH.2 λc hc=>bH.1 hl c (h.subset hc)
theorem JI{p q:List ae}(h:q <+: p):aj q<=aj p:=by
 obtain⟨t,rfl⟩:=h
 have:=fX (q++t) q.length
 rwa [List.take_left']at this
 rfl
@[reducible] def UR(c:List ae):List PV:=[.list 7 .sh (c.map ae.pv)]
theorem Vk{ps:List Prod}(uh:∀p∈ps,l_ p)(hl:ps.length<=100)(f:Fl){L:List aY}{μ:Mem}(hO:Ow L μ){K:Kq}(hk:∀D:List (List ae),D.Nodup->(∀q,q∈D↔q≠[]/\∃p∈ps,q <+: p.conds)->∀μ',Ow L μ'->K (pI ((D.length:Nat):Int)) μ'):
  aa prog 33 [.list 3 f (ps.map Prod.pv)] μ K:=by
 have hlen:∀p∈ps,p.conds.length<=16/\bD p.conds/\aj p.conds<=16:=λp hp=>by
  obtain⟨g1,_,_,g4,_⟩:=(uh p hp).facts
  have:=ch p.conds
  exact⟨by omega,nG g1,g4⟩
 refine uJ.c ?_
 refine ak.dm (n:=ps.length) (by omega) (λi s u=>∃D:List (List ae),s.2=D.map UR/\D.Nodup/\(∀q,q∈D↔q≠[]/\∃p∈ps.take i,q <+: p.conds)/\D.length<=16*i/\Ow (eH s.1 D.length 1::L) u) ⟨[],rfl,List.nodup_nil,by simp,by simp,hO.nil (.inl rfl)⟩ ?_ ?_
 ·rintro i ⟨f0,_⟩ u next hi ⟨D,rfl,hn,hm,hdl,h1⟩ ar
  dsimp only at h1 |-
  obtain⟨c1,c2,c3⟩:=hlen _ (List.getElem_mem hi)
  refine ab.t (by simpa using hi) ?_
  refine ak.OX ps[i].conds.length (λk (s:(Fl×Lq)×Int) u=>s.2=((k+1:Nat):Int)/\∃E:List (List ae),s.1.2=E.map UR/\E.Nodup/\(∀q,q∈E↔(q≠[]/\∃p∈ps.take i,q <+: p.conds)\/∃j,1<=j/\j<=k/\q=ps[i].conds.take j)/\E.length<=16*i+k/\Ow (eH s.1.1 E.length 1::L) u) ?_ ?_ ?_
  ·refine⟨rfl,D,rfl,hn,λq=>?_,by omega,h1⟩
   rw[hm]
   constructor
   ·exact λh=>.inl h
   ·rintro(h|⟨j,h1,h2,_⟩)
    ·exact h
    ·omega
  ·rintro k ⟨⟨f2,_⟩,_⟩ u2 qc fH ⟨rfl,E,rfl,en,em,el,h2⟩ gq
   dsimp only at h2 gq |-
   have eb:List.drop (Int.toNat (0:Int)) (List.take (Int.toNat ((k+1:Nat):Int)) (ps[i].conds.map ae.pv))=(ps[i].conds.take (k+1)).map ae.pv:=by
    rw[show Int.toNat (0:Int)=0 from rfl,Int.toNat_natCast,List.drop_zero,<- List.map_take]
   have hE:∀q∈E,bD q/\aj q<=16:=λq hq=>by
    rcases(em q).1 hq with⟨_,p,hp,cZ⟩|⟨j,_,_,rfl⟩
    ·obtain⟨_,c2',c3'⟩:=hlen p (List.mem_of_mem_take hp)
     exact⟨FW cZ c2',Nat.le_trans (JI cZ) c3'⟩
    ·exact⟨FW (List.take_prefix _ _) c2,Nat.le_trans (JI (List.take_prefix _ _)) c3⟩
   refine⟨by omega,_,aw hi,_,_,rfl,ab.t (decide_eq_true (by rw[List.length_map];omega)) ⟨by omega,_,aw hi,_,_,rfl,by omega,by omega,by rw[List.length_map];omega,?_⟩⟩
   rw[eb]
   have ew:IntKind.wrap .i64 (((k+1:Nat):Int)+1)=((k+1+1:Nat):Int):=by rw[az (by omega) (by omega)];rfl
   refine ak.dm (n:=E.length) (by omega) (λj b u=>(b=true↔ps[i].conds.take (k+1)∈E.take j)/\u=u2) ⟨by simp,rfl⟩ ?_ ?_
   ·rintro j b u3 uU hj ⟨hb,rfl⟩ lW
    refine ab.t (by simpa using hj) (ab.mk (λht=>lW _ _ ⟨?_,rfl⟩) (λhf=>?_))
    ·rw[fx hj,List.mem_append]
     exact⟨λ_=>.inl (hb.1 ht),λ_=>rfl⟩
    ·refine⟨by omega,_,aw hj,_,_,rfl,?_⟩
     obtain⟨e1,e2⟩:=hE _ (List.getElem_mem hj)
     refine(Mq _ .sh .sh E[j] (ps[i].conds.take (k+1)) (Nat.le_refl _) (by omega) e1).call (λe=>⟨_,rfl,lW _ _ ⟨?_,rfl⟩⟩) (λe=>⟨_,rfl,lW _ _ ⟨?_,rfl⟩⟩)
     ·rw[fx hj,List.mem_append,<- e];simp
     ·rw[fx hj,List.mem_append,<- hb]
      have hf:b=false:=hf
      subst hf
      simp only[Bool.false_eq_true,List.mem_singleton,false_or,false_iff]
      exact λh=>e h.symm
   ·rintro b u3 uU ⟨hb,rfl⟩
    rw[List.take_length]at hb
    refine ab.f (by simp) (ab.mk (λhf=>?_) (λht=>?_))
    ·have hf:b=false:=nb hf
     have cm:ps[i].conds.take (k+1)∉E:=λh=>by rw[hb.2 h]at hf;cases hf
     refine h2.app (by simp) (by simp;omega) (by simp;omega) λf3 u4 h4=>gq _ _ ⟨ew,E++[ps[i].conds.take (k+1)],by rw[List.map_append];rfl,?_,λq=>?_,by simp;omega,by rw[List.length_append];exact h4⟩
     ·rw[List.nodup_append]
      refine⟨en,by simp,λa ha b iK=>?_⟩
      simp only[List.mem_singleton]at iK
      subst iK
      rintro rfl
      exact cm ha
     ·rw[List.mem_append,em,List.mem_singleton]
      constructor
      ·rintro((h|⟨j,h1,h2,h3⟩)|h)
       ·exact .inl h
       ·exact .inr ⟨j,h1,by omega,h3⟩
       ·exact .inr ⟨k+1,by omega,by omega,h⟩
      ·rintro(h|⟨j,h1,h2,h3⟩)
       ·exact .inl (.inl h)
       ·by_cases e:j=k+1
        ·subst e;exact .inr h3
        ·exact .inl (.inr ⟨j,h1,by omega,h3⟩)
    ·have gG:=hb.1 (nt ht)
     refine gq _ _ ⟨ew,E,rfl,en,λq=>?_,by omega,h2⟩
     rw[em]
     constructor
     ·rintro(h|⟨j,h1,h2,h3⟩)
      ·exact .inl h
      ·exact .inr ⟨j,h1,by omega,h3⟩
     ·rintro(h|⟨j,h1,h2,h3⟩)
      ·exact .inl h
      ·by_cases e:j=k+1
       ·subst e;rw[h3];exact(em _).1 gG
       ·exact .inr ⟨j,h1,by omega,h3⟩
  ·rintro⟨⟨f2,_⟩,_⟩ u2 qc ⟨rfl,E,rfl,en,em,el,h2⟩
   dsimp only at h2 |-
   refine⟨by omega,_,aw hi,_,_,rfl,ab.f (decide_eq_false (by rw[List.length_map];omega)) (ar _ _ ⟨E,rfl,en,λq=>?_,by omega,h2⟩)⟩
   rw[em]
   constructor
   ·rintro(⟨h,p,hp,h3⟩|⟨j,h1,h2,rfl⟩)
    ·exact⟨h,p,(dg hi).2 (.inl hp),h3⟩
    ·refine⟨λe=>?_,_,(dg hi).2 (.inr rfl),List.take_prefix _ _⟩
     have:=congrArg List.length e
     rw[List.length_take,List.length_nil]at this
     omega
   ·rintro⟨h,p,hp,h3⟩
    rcases(dg hi).1 hp with hp|rfl
    ·exact .inl ⟨h,p,hp,h3⟩
    ·refine .inr ⟨q.length,List.length_pos_iff.2 h,h3.length_le,(List.prefix_iff_eq_take.1 h3)⟩
 ·rintro⟨f0,_⟩ u next ⟨D,rfl,hn,hm,hdl,h1⟩
  rw[List.take_length]at hm
  refine ab.f (by simp) ?_
  dsimp only
  rw[List.length_map]
  exact hk D hn hm u h1.drop
section
variable {n r:Nat} {x:NC} {es:List af} {ps:List Prod} {y:tq}
theorem tW(hb:yZ x es ps y){L:List aY}{u:Mem}(h:Ow (bR n x es ps 20::aW r y::L) u){F:Kq}
  (hF:∀(v:Int) u',Ow (bR n x es ps 20::aW r y::L) u'->(∀{F2:Kq} f,(∀u2,Ow (bR n x es ps 20::aW r y::L) u2->F2 (pI v) u2)->aa prog 33 [.list 3 f (y.ps.map Prod.pv)] u' F2)->F (pI v) u'):
  aa prog 32 [pP n 0] u F:=by
 refine mS h λD d1 d2 u1 h1=>hF _ u1 h1 λ{F2} f DD=>Vk hb.ok.rE hb.ok.Bg f h1 λE e1 e2 u2 h2=>?_
 have:=sH d1 e1 λq=>by rw[d2,e2,hb.ps]
 rw[<- this]
 exact DD _ h2
theorem Nv(hb:yZ x es ps y){L:List aY}{u:Mem}(h:Ow (bR n x es ps 20::aW r y::L) u)(s:ByteArray){q:Prod}(hq:aL aI cM s ps=some q){F:Kq}
  (hF:∀u',(∀{F2:Kq},(∀y' u2,yZ x es (bq aI cM s ps) y'->Ow (bR n x es (bq aI cM s ps) 20::aW r y'::L) u2->F2 (pB true) u2)->aa prog 35 [pP r 0,pS s] u' F2)->F (pB true) u'):
  aa prog 34 [pP n 0,pS s] u F:=by
 refine DV (by omega) s h (λq' _ u1 h1=>hF u1 λ{F2} DD=>?_) (λcm=>by rw[cm]at hq;cases hq)
 refine Vs hb.ok s (Ow.swap h1) (λq2 _ y' u2 o1 o2 o3 o4 o5 h2=>DD y' u2 ⟨o1,o2.trans hb.B,o3.trans hb.M,by rw[o5,hb.ps],hb.up,by rw[o4];exact hb.es⟩ (Ow.swap h2)) (λcm=>by rw[hb.ps,hq]at cm;cases cm)
end
theorem Nj(ps:List Prod)(_:(∀s∈ps,True)/\ps.length<=maxLen)(k:Int):Pure prog 5 [.list 3 .sh (ps.map Prod.pv),pI k] (pB true):=by
 refine ao.of (qw.c ?_)
 refine(iz .sh ps 8 (by omega)).call ?_
 rintro _ ⟨q,rfl,hq⟩
 refine⟨_,rfl,ab.mk (λ_=>dS _) (λhf=>?_)⟩
 refine tU .sh .nil (by omega) (hq hf) [] (by simp) (L:=[]) trivial λn r x fw fW y u1 hT hM ht IY eZ hb h1=>⟨_,_,rfl,ab.f rfl ?_⟩
 have aT:∀e:Int,((e != e):Bool)=false:=λe=>by simp
 have heq:∀e:Int,((e == e):Bool)=true:=λe=>by simp
 have ui:=hb.ok.Bg
 refine⟨λ_ u=>∃qJ y',yZ x fw qJ y'/\Ow (bR n x fw qJ 20::aW r y'::[]) u,?_,?_⟩
 ·obtain⟨f,h3⟩:=aW.open_ (Ow.swap h1)
  refine⟨_,_,h3.rd 0 rfl (by simp),ab.mk (λTK=>?_) (λ_=>⟨_,y,hb,h1⟩)⟩
  have TK:0<y.ps.length:=by simpa using TK
  refine⟨λs u=>(∃q,aL aI cM s fW=some q)/\Ow (bR n x fw fW 20::aW r y::[]) u,?_,?_⟩
  ·have hw:=jo k (n:=(y.ps.map Prod.pv).length) (by rw[List.length_map];omega)
   have hw2:dy k (y.ps.map Prod.pv).length<y.ps.length:=by simpa using hw
   have hg:∃q,aL aI cM y.ps[dy k (y.ps.map Prod.pv).length].name fW=some q:=⟨_,(congrArg (λl=>aL aI cM y.ps[dy k (y.ps.map Prod.pv).length].name l) hb.ps).symm.trans (ra hb.ok.si hw2)⟩
   have cw:=nZ k (y.ps.map Prod.pv).length (by rw[List.length_map];omega) (by rw[List.length_map];omega)
   refine⟨_,_,h3.rd 0 rfl (by simp),⟨_,_,h3.rd 0 rfl (by simp),cw.call ⟨_,rfl,by omega,_,aw hw2,_,rfl,hg,h1⟩,trivial⟩,cw.call ⟨_,rfl,_,_,h3.rd 0 rfl (by simp),by omega,_,aw hw2,_,rfl,hg,h1⟩,trivial⟩
  ·rintro s u2 ⟨⟨q,hq⟩,h4⟩
   obtain⟨f',h5⟩:=aW.open_ (Ow.swap h4)
   have tail:∀u3,Ow (bR n x fw fW 20::aW r y::[]) u3->∀{F:Kq},(∀u',(∀{F2:Kq},(∀u2,(∃qJ y',yZ x fw qJ y'/\Ow (bR n x fw qJ 20::aW r y'::[]) u2)->F2 (pB true) u2)->aa prog 35 [pP r 0,pS s] u' F2)->F (pB true) u')->aa prog 34 [pP n 0,pS s] u3 F:=λu3 h {F} hF=>Nv hb h s hq λu' hc=>hF u' λ{F2} DD=>hc λy' u2 iK h'=>DD u2 ⟨_,y',iK,h'⟩
   refine⟨⟨_,_,h5.rd 0 rfl (by simp),tW hb h4 λv u3 h6 hc=>⟨_,rfl,hc _ λu4 h7=>⟨_,rfl,ab.f (aT _) ⟨tail u4 h7 λu5 hx=>⟨_,rfl,ab.f rfl ⟨hx λu6 h8=>⟨_,rfl,ab.f rfl h8⟩,trivial⟩⟩,trivial⟩⟩,trivial⟩,trivial⟩,tW hb h4 λv u3 h6 hc=>?_,trivial⟩
   obtain⟨f'',Yh⟩:=aW.open_ (Ow.swap h6)
   exact⟨_,rfl,_,_,Yh.rd 0 rfl (by simp),hc _ λu4 h7=>⟨_,rfl,ab.f (aT _) ⟨tail u4 h7 λu5 hx=>⟨_,rfl,ab.f rfl ⟨hx λu6 h8=>⟨_,rfl,ab.f rfl h8⟩,trivial⟩⟩,trivial⟩⟩,trivial⟩
 ·rintro _ u2 ⟨qJ,y',iK,h4⟩
  obtain⟨f',h5⟩:=aW.open_ (Ow.swap h4)
  refine⟨⟨_,_,h5.rd 0 rfl (by simp),tW iK h4 λv u3 h6 hc=>⟨_,rfl,hc _ λu4 h7=>⟨_,rfl,ab.t (heq _) (dS _),trivial⟩,trivial⟩,trivial⟩,tW iK h4 λv u3 h6 hc=>?_,trivial⟩
  obtain⟨f'',Yh⟩:=aW.open_ (Ow.swap h6)
  exact⟨_,rfl,_,_,Yh.rd 0 rfl (by simp),hc _ λu4 h7=>⟨_,rfl,ab.t (heq _) (dS _),trivial⟩,trivial⟩
open Go.ChangeShapes Go.WideShapes Go.ChangeAt
set_option maxRecDepth 100000 in
theorem ReteNodes.lifted(os:Os)(started:os.Started)(H:Type)(enc:TypeId×Value->H):
  ReturnsInHanded {} Tryz.checked os 5 .any (Rows.reteNodesSpec.pre6 enc prog f5 Rows.reteNodesRow.domain false) (Rows.reteNodesSpec.post enc prog f5 false true false false):=by
 refine returnsInHanded_of_change (C:=Tryz.checked) qK started (by kernel_rfl) func5
  (ChangeSpec.witness6 (enc:=enc) (C:=Tryz.checked) false ⟨#[],#[.slice none 0 0,.int .i64 0],[]⟩ 12 (by kernel_rfl) (by kernel_rfl) (by kernel_rfl) (by kernel_rfl)) ?_
 intro W base args ds gs before jH hW QG _
 have gU:∀(j:Nat) t v,f5.params[j]?=some t->args[j]?=some v->Value.okWide prog W .any base t v:=jH
 have QI:=hW
 obtain⟨p,q,Gv,hV,rfl,ZM,Bv⟩:=hW
 have hA:DataW.TrodAll enc prog W 0 (λ_=>true) true f5.params.toList args.toList ds p:=Gv
 rw[params5]at hA gU
 obtain⟨v0,vs0,d0,ds0,p0,q0,AW,rfl,rfl,h0,r0⟩:=trodAll_cons hA
 obtain⟨v1,WA,d1,ds1,p1,q1,rfl,rfl,rfl,h1,r1⟩:=trodAll_cons r0
 obtain⟨rfl,rfl,rfl⟩:=trodAll_nil r1
 obtain rfl:args= #[v0,v1]:=by cases args;simp_all
 obtain⟨rfl,rfl⟩:=trodVars_none hV
 have Qq:∀x∈p0,x.block<W.heap.size:=by obtain⟨m,hm⟩:=h0;exact DataW.trod_lt m _ _ _ hm
 obtain⟨a0,e0,w0⟩:=iY underlying43 Cm (by omega) vv (gU 0 43 v0 rfl rfl) h0
 have Qp:∀x∈p1,x.block<W.heap.size:=by obtain⟨m,hm⟩:=h1;exact DataW.trod_lt m _ _ _ hm
 obtain⟨a1,e1,w1⟩:=mM underlying3 (gU 1 3 v1 rfl rfl) h1
 clear Gv jH
 refine(ao.calls (vs:=[v0,v1]) (Nj a0 w0 a1) (bf.cons rfl e0 (bf.cons rfl e1 (bf.nil _)))).mono λe W' ⟨⟨v,x,Z,he,hr,hx⟩,tj⟩=>?_
 subst hx;subst he;rw[hr.ofRaw.1]
 exact⟨_,rfl,_,_,_,[],_,[],QI,trodAll_mk1 (shut_bool underlying4 _),(trodAll_cons_mk (Below.trod dj (by kernel_rfl) (of_decide_eq_true (by kernel_rfl)) h0 tj Qq) (trodAll_cons_mk (Below.trod dj (by kernel_rfl) (of_decide_eq_true (by kernel_rfl)) h1 tj Qp) trodAll_mk0)),rfl,tj.frame _,λh=>by cases h⟩
theorem and2{a b:Bool}(h:a=true)(k:b=true):(a&&b)=true:=by rw[h,k];rfl
set_option maxHeartbeats 0 in
theorem ReteNodes.closed:joinedFacts Tryz.checked.prog 5 f5 Rows.reteNodesSpec Rows.reteNodesRow=true:=by
 unfold joinedFacts
 repeat' with_reducible apply and2
 all_goals (as_aux_lemma=>kernel_rfl)
theorem ReteNodes.proved:Rows.ReteNodesSaid:=
 OpenClaim.holds_of_wide 5 f5 rfl rfl rfl rfl rfl rfl rfl ⟨rfl,rfl,rfl,rfl,rfl⟩ rfl rfl rfl rfl rfl (by kernel_rfl) func5 ReteNodes.closed
  (of_decide_eq_true (by kernel_rfl)) (by unfold Func.isWrapper;first|(rw[if_pos (by decide +kernel)];kernel_rfl)|(rw[if_neg (by decide +kernel)];exact⟨rfl,rfl⟩))
  (λos started H enc _=>ReteNodes.lifted os started H enc)
end Go.Proofs.YtbodiiomcfgokaaGreat
