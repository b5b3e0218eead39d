/- What is proved: the statement ReteBinds, as it is given, for every input that it speaks of. Conditions: none. -/
import Derived.Test.YtbodiiomcfgokaaGreatB14
import Derived.Test.YtbodiiomcfgokaaGreatChecked
import Derived.KernelRfl
import Derived.ChangeArms
import Derived.WideShapes
import Derived.DataReads
import Derived.WalkKit
import Derived.ProofKit
import Derived.OpenShut
import Derived.ShutString
import Derived.ChangeOld
import Derived.Below
set_option linter.all false
namespace Go.Proofs.YtbodiiomcfgokaaGreat
open Go.Proofs.Tryz Go.aK
variable {u0:Mem} {K:Kq}
set_option maxRecDepth 100000
theorem aaa.c{n p W:Fl}{m o b:Lq}{a:ByteArray}(h: bZ (α:=Bool) (λk=> aa prog 36 [.list 3 n m,.list 12 p o] u0 λb6 r=> ∃E,b6=(pB E)/\ ab (!E) (k true r) (ab (decide (((List.length b:Nat):Int)>40)) (k true r) (k (decide ((((ByteArray.size a:Nat):Int):Int)>100)) r))) (λa4 y=> ab a4 (aa prog 19 [] y λb7 a9=> ∃F,b7=(pB F)/\ K (pB F) a9) (aa prog 22 [.list 3 n m,.list 12 p o] y λb9 g=> ∃i e,b9=(.aD [pA i,pA e])/\ ab (Option.isNone i) (K (pB false) g) (bZ (α:=(Fl×Lq)) (λl=> ((aa prog 38 [pA e] g λc0 b1=> ∃I s,c0=(.list 2 I s)/\ ((aV false 2 40 I s [[pS a,.list 1 .sh b]] b1 λY b2=> l (Y,(s++[[pS a,.list 1 .sh b]])) b2)/\ True)/\ True)/\ ((aa prog 38 [pA e] g λc1 b3=> ∃G t,c1=(.list 2 G t)/\ (aV false 2 40 G t [[pS a,.list 1 .sh b]] b3 λZ b4=> l (Z,(t++[[pS a,.list 1 .sh b]])) b4)/\ True)/\ True)/\ True)/\ (aa prog 38 [pA e] g λc2 b5=> ∃H u,c2=(.list 2 H u)/\ ((aV false 2 40 H u [[pS a,.list 1 .sh b]] b5 λa0 a5=> l (a0,(u++[[pS a,.list 1 .sh b]])) a5)/\ True)/\ True)/\ True) (λq b0=> ak (α:=Int) (λa1 d z=> ab (decide (d<((List.length q.2:Nat):Int))) (0<=d/\∃(w:List PV),(q.2)[Int.toNat d]?=some w/\ ∃J c7 L,ay w 0 2=some [pS J,.list 1 c7 L]/\ aa prog 44 [pA i,.agg [pS J,.list 1 .sh L]] z λc3 a6=> ∃v j M N,c3=(.aD [pV v j M,pB N])/\ 0<=d/\∃(x:List PV),(q.2)[Int.toNat d]?=some x/\ ∃O c8 P,ay x 0 2=some [pS O,.list 1 c8 P]/\ aa prog 45 [pA e,.agg [pS O,.list 1 .sh P]] a6 λc4 A=> ∃R Q S,c4=(.aD [.list 4 R Q,pB S])/\ ab (!(N == S)) (K (pB false) A) (aa prog 46 [pV v j M,.list 4 R Q] A λc5 B=> ∃T,c5=(pB T)/\ ab (!T) (K (pB false) B) (ak (α:=Int) (λa2 f C=> ab (decide (f<((j:Nat):Int))) (cK v λX a3=> 0<=f/\f<((j:Nat):Int)/\ stM X (a3+Int.toNat f*4) [pS ⟨#[103,111,110,101]⟩] C λa7=> a2 (IntKind.wrap .i64 (f+1)) a7) (a1 (IntKind.wrap .i64 (d+1)) C)) (0) B))) (aa prog 43 [pA i,pA e] z λc6 D=> ∃U,c6=(pB U)/\ ab U (aa prog 19 [] D λb8 a8=> ∃V,b8=(pB V)/\ K (pB V) a8) (K (pB false) D))) (0) b0))))):aa prog 7 [.list 3 n m,.list 12 p o,.agg [pS a,.list 1 W b]] u0 K:= VC [5,1000006] [(8,⟨[(10,.one (.raw (.int .i64)))],[]⟩),(15,⟨[(15,.one (.raw (.int .i64)))],[]⟩)] [(2,⟨[(31,.one (.raw .bool))],[]⟩),(7,⟨[(9,.one (.list 2))],[]⟩)] [] [] [] [11,52,58,59,74,80,85] func7 h
theorem cD.c{b:Fl}{a:Lq}{d:Int}(h: aa prog 69 [.list 12 b a,pI d] u0 λg f=> ∃e,g=(pB e)/\ K (pB e) f):aa prog 16 [.list 12 b a,pI d] u0 K:= VC [] [] [] [] [] [] [] func16 h
theorem eJ.c{s t:Fl}{b d:Lq}(h: ab (((List.length b:Nat):Int) != ((List.length d:Nat):Int)) (K (pB false) u0) (ak (α:=Int) (λu a e=> ab (decide (a<((List.length b:Nat):Int))) (0<=a/\∃(f:List PV),(b)[Int.toNat a]?=some f/\ ∃l,ay f 0 1=some [pS l]/\ 0<=a/\∃(g:List PV),(d)[Int.toNat a]?=some g/\ ∃m,ay g 0 1=some [pS m]/\ ab (!aJ l m) (K (pB false) e) (0<=a/\∃(i:List PV),(b)[Int.toNat a]?=some i/\ ∃o n,ay i 1 1=some [.list 1 o n]/\ 0<=a/\∃(j:List PV),(d)[Int.toNat a]?=some j/\ ∃q p,ay j 1 1=some [.list 1 q p]/\ aa prog 77 [.list 1 o n,.list 1 q p] e λv k=> ∃r,v=(pB r)/\ ab (!r) (K (pB false) k) (u (IntKind.wrap .i64 (a+1)) k))) (K (pB true) e)) (0) u0)):aa prog 29 [.list 2 s b,.list 2 t d] u0 K:= VC [] [(4,⟨[(5,.one (.raw (.int .i64)))],[]⟩)] [] [] [] [] [] func29 h
theorem cG.c{m:Fl}{a:Lq}{d:Int}(h: ab (decide (((List.length a:Nat):Int)>d)) (K (pB true) u0) (ak (α:=Int) (λn b f=> ab (decide (b<((List.length a:Nat):Int))) (0<=b/\∃(e:List PV),(a)[Int.toNat b]?=some e/\ ∃i p j q k,ay e 0 3=some [pS i,.list 7 p j,.list 19 q k]/\ aa prog 15 [.agg [pS i,.list 7 .sh j,.list 19 .sh k]] f λo g=> ∃l,o=(pB l)/\ ab l (K (pB true) g) (n (IntKind.wrap .i64 (b+1)) g)) (K (pB false) f)) (0) u0)):aa prog 30 [.list 3 m a,pI d] u0 K:= VC [] [(4,⟨[(5,.one (.raw (.int .i64)))],[]⟩)] [] [] [] [] [] func30 h
theorem eW.c{b e:Fl}{a d:Lq}(h: aa prog 30 [.list 3 b a,pI 6] u0 λk f=> ∃i,k=(pB i)/\ ab (!i) (aa prog 16 [.list 12 e d,pI 30] f λl j=> ∃g,l=(pB g)/\ K (pB g) j) (K (pB false) f)):aa prog 36 [.list 3 b a,.list 12 e d] u0 K:= VC [] [] [] [] [] [] [] func36 h
theorem aap.c{d:Option Addr}(h: ak (α:=(Fl×Lq)×Int) (λy a f=> nP d λt A=> ∃F n,aB f t (A+2) 1=some [.list 3 F n]/\ ab (decide (a.2<((List.length n:Nat):Int))) (ak (α:=(Fl×Lq)×Int) (λz b e=> nP d λu B=> ∃G o,aB e u (B+4) 1=some [.list 1 G o]/\ 0<=a.2/\∃(j:List PV),(o)[Int.toNat a.2]?=some j/\ ∃H p,ay j 0 1=some [.list 3 H p]/\ ab (decide (b.2<((List.length p:Nat):Int))) (nP d λv C=> ∃I q,aB e v (C+2) 1=some [.list 3 I q]/\ 0<=a.2/\∃(k:List PV),(q)[Int.toNat a.2]?=some k/\ ∃g,ay k 0 1=some [pS g]/\ nP d λw D=> ∃J r,aB e w (D+4) 1=some [.list 1 J r]/\ 0<=a.2/\∃(l:List PV),(r)[Int.toNat a.2]?=some l/\ ∃L s,ay l 0 1=some [.list 3 L s]/\ 0<=b.2/\∃(m:List PV),(s)[Int.toNat b.2]?=some m/\ ∃M i,ay m 0 1=some [.list 1 M i]/\ aV false 2 40 b.1.1 b.1.2 [[pS g,.list 1 .sh i]] e λx E=> z ((x,(b.1.2++[[pS g,.list 1 .sh i]])),(IntKind.wrap .i64 (b.2+1))) E) (y ((b.1.1,b.1.2),(IntKind.wrap .i64 (a.2+1))) e)) ((a.1.1,a.1.2),0) f) (K (.list 2 a.1.1 a.1.2) f)) ((.nil,[]),0) u0):aa prog 38 [pA d] u0 K:= VC [] [(3,⟨[(3,.one (.list 2)),(4,.one (.raw (.int .i64)))],[]⟩),(6,⟨[(3,.one (.list 2)),(5,.one (.raw (.int .i64)))],[]⟩)] [] [] [] [] [] func38 h
theorem aac.c{b d:Option Addr}(h: (aa prog 58 [pA b] u0 λy u=> ∃n o p,y=(.fn n o p)/\ (aa prog 23 [.fn n o p] u λz v=> ∃r q,z=(.list 2 r q)/\ (aa prog 38 [pA d] v λA w=> ∃t s,A=(.list 2 t s)/\ (aa prog 29 [.list 2 r q,.list 2 t s] w λB a=> ∃i,B=(pB i)/\ ab i (nP d λe f=> (∃F l,aB a e (f+2) 1=some [.list 3 F l]/\ (aa prog 57 [pA b] a λC x=> ∃j,C=(pI j)/\ K (pB (j == ((List.length l:Nat):Int))) x)/\ True)/\ (aa prog 57 [pA b] a λD g=> ∃k,D=(pI k)/\ ∃E m,aB g e (f+2) 1=some [.list 3 E m]/\ K (pB (k == ((List.length m:Nat):Int))) g)/\ True) (((K (pB false) a)/\ True)/\ (K (pB false) a)/\ True))/\ True)/\ True)/\ True)/\ True):aa prog 43 [pA b,pA d] u0 K:= VC [1000001] [] [] [] [] [] [] func43 h
theorem aau.c{k:Option Addr}{d:ByteArray}{m:Fl}{l:Lq}(h: bZ (α:=Option Addr×Bool) (λj=> nP k λR W=> ∃f,aB u0 R (W+6) 1=some [pA f]/\ (aa prog 75 [pA f,pS d] u0 λb0 a3=> ∃t y v C z G D H,b0=(.aD [.agg [pS t,.list 7 y v,.list 19 C z,.list 1 G D],pB H])/\ bJ a3 129 [pS ⟨#[]⟩,.list 7 .nil [],.list 19 .nil [],.list 1 .nil []] λn a4=> stM n 0 [pS t,.list 7 y v,.list 19 C z,.list 1 G D] a4 λa5=> j ((some ⟨n,0,none⟩),H) a5)/\ (bJ u0 129 [pS ⟨#[]⟩,.list 7 .nil [],.list 19 .nil [],.list 1 .nil []] λo a6=> aa prog 75 [pA f,pS d] a6 λb1 a7=> ∃u x w B A F E I,b1=(.aD [.agg [pS u,.list 7 x w,.list 19 B A,.list 1 F E],pB I])/\ stM o 0 [pS u,.list 7 x w,.list 19 B A,.list 1 F E] a7 λa8=> j ((some ⟨o,0,none⟩),I) a8)) (λe a=> ab (!e.2) (K (.aD [.list 4 .nil [],pB false]) a) (aF (pA e.1) λS X=> ∃b3 J,aB a S (X+3) 1=some [.list 1 b3 J]/\ aF (pA e.1) λT Y=> ∃b4 g,aB a T (Y+3) 1=some [.list 1 b4 g]/\ 0<=(IntKind.wrap .i64 (((List.length g:Nat):Int)-1))/\∃(p:List PV),(J)[Int.toNat (IntKind.wrap .i64 (((List.length g:Nat):Int)-1))]?=some p/\ ∃L,ay p 0 1=some [pA L]/\ nP L λU Z=> ∃b5 i,aB a U (Z+9) 1=some [.list 2 b5 i]/\ ak (α:=Int) (λV b r=> ab (decide (b<((List.length i:Nat):Int))) (0<=b/\∃(q:List PV),(i)[Int.toNat b]?=some q/\ ∃N M P O,ay q 0 2=some [.list 1 N M,.list 4 P O]/\ aa prog 111 [.list 1 N M,.list 1 m l] r λb2 s=> ∃Q,b2=(pI Q)/\ ab (Q == 0) (lZ 4 48 88 none 0 0 (.list 4 P O) s λa0 a2 a1 a9=> K (.aD [pV a0 a2 a1,pB true]) a9) (V (IntKind.wrap .i64 (b+1)) s)) (K (.aD [.list 4 .nil [],pB false]) r)) (0) a))):aa prog 44 [pA k,.agg [pS d,.list 1 m l]] u0 K:= VC [3,9] [(5,⟨[(34,.one (.raw (.int .i64)))],[]⟩)] [(2,⟨[(6,.one (.raw .ptr)),(7,.one (.raw .bool))],[]⟩)] [] [] [] [4,46] func44 h
theorem aas.c{e:Option Addr}{k:ByteArray}{g:Fl}{f:Lq}(h: aa prog 86 [pA e,pS k] u0 λF E=> ∃d r,F=(.aD [pI d,pB r])/\ ak (α:=Int) (λl a b=> ab r (nP e λA C=> ∃I s,aB b A (C+4) 1=some [.list 1 I s]/\ 0<=d/\∃(m:List PV),(s)[Int.toNat d]?=some m/\ ∃J t,ay m 0 1=some [.list 3 J t]/\ ab (decide (a<((List.length t:Nat):Int))) (nP e λB D=> ∃L u,aB b B (D+4) 1=some [.list 1 L u]/\ 0<=d/\∃(n:List PV),(u)[Int.toNat d]?=some n/\ ∃M v,ay n 0 1=some [.list 3 M v]/\ 0<=a/\∃(o:List PV),(v)[Int.toNat a]?=some o/\ ∃j i x w N,ay o 0 3=some [.list 1 j i,.list 4 x w,pI N]/\ aa prog 112 [.list 1 j i,.list 1 g f] b λG p=> ∃y,G=(pB y)/\ ab (!y) (aa prog 112 [.list 1 g f,.list 1 j i] p λH q=> ∃z,H=(pB z)/\ ab (!z) (K (.aD [.list 4 x w,pB true]) q) (l (IntKind.wrap .i64 (a+1)) q)) (l (IntKind.wrap .i64 (a+1)) p)) (K (.aD [.list 4 .nil [],pB false]) b)) (K (.aD [.list 4 .nil [],pB false]) b)) (0) E):aa prog 45 [pA e,.agg [pS k,.list 1 g f]] u0 K:= VC [3,9] [(3,⟨[(8,.one (.raw (.int .i64)))],[]⟩)] [] [] [] [] [] func45 h
theorem JP.c{q r:Fl}{b d:Lq}(h: ab (((List.length b:Nat):Int) != ((List.length d:Nat):Int)) (K (pB false) u0) (ak (α:=Int) (λs a e=> ab (decide (a<((List.length b:Nat):Int))) (0<=a/\∃(f:List PV),(b)[Int.toNat a]?=some f/\ ∃i j k l,ay f 0 4=some [pS i,pI j,pS k,pI l]/\ 0<=a/\∃(g:List PV),(d)[Int.toNat a]?=some g/\ ∃m n o p,ay g 0 4=some [pS m,pI n,pS o,pI p]/\ ab (!(aJ i m&&((j == n)&&(aJ k o&&((l == p)&&true))))) (K (pB false) e) (s (IntKind.wrap .i64 (a+1)) e)) (K (pB true) e)) (0) u0)):aa prog 46 [.list 4 q b,.list 4 r d] u0 K:= VC [] [(4,⟨[(5,.one (.raw (.int .i64)))],[]⟩)] [] [] [] [] [] func46 h
theorem Ev.c{a:Option Addr}(h: nP a λe f=> ∃b,aB u0 e (f+6) 1=some [pA b]/\ aa prog 119 [pA b] u0 λi g=> ∃d,i=(pI d)/\ K (pI d) g):aa prog 57 [pA a] u0 K:= VC [] [] [] [] [] [] [] func57 h
theorem cB.c{m:Fl}{b:Lq}{e:Int}(h: ab (decide (((List.length b:Nat):Int)>e)) (K (pB false) u0) (ak (α:=Int) (λn a d=> ab (decide (a<((List.length b:Nat):Int))) (0<=a/\∃(f:List PV),(b)[Int.toNat a]?=some f/\ ∃j,ay f 1 1=some [pS j]/\ ab (decide ((((ByteArray.size j:Nat):Int):Int)>100)) (K (pB false) d) (0<=a/\∃(g:List PV),(b)[Int.toNat a]?=some g/\ ∃k,ay g 4 1=some [pS k]/\ ab (decide ((((ByteArray.size k:Nat):Int):Int)>100)) (K (pB false) d) (0<=a/\∃(i:List PV),(b)[Int.toNat a]?=some i/\ ∃l,ay i 7 1=some [pS l]/\ ab (decide ((((ByteArray.size l:Nat):Int):Int)>100)) (K (pB false) d) (n (IntKind.wrap .i64 (a+1)) d)))) (K (pB true) d)) (0) u0)):aa prog 69 [.list 12 m b,pI e] u0 K:= VC [] [(4,⟨[(5,.one (.raw (.int .i64)))],[]⟩)] [] [] [] [] [] func69 h
theorem dK.c{k l:Fl}{b d:Lq}(h: ab (((List.length b:Nat):Int) != ((List.length d:Nat):Int)) (K (pB false) u0) (ak (α:=Int) (λm a e=> ab (decide (a<((List.length b:Nat):Int))) (0<=a/\∃(f:List PV),(b)[Int.toNat a]?=some f/\ ∃i,ay f 0 1=some [pI i]/\ 0<=a/\∃(g:List PV),(d)[Int.toNat a]?=some g/\ ∃j,ay g 0 1=some [pI j]/\ ab (i != j) (K (pB false) e) (m (IntKind.wrap .i64 (a+1)) e)) (K (pB true) e)) (0) u0)):aa prog 77 [.list 1 k b,.list 1 l d] u0 K:= VC [] [(4,⟨[(5,.one (.raw (.int .i64)))],[]⟩)] [] [] [] [] [] func77 h
end Go.Proofs.YtbodiiomcfgokaaGreat
namespace Go.aK
open Go.RowKit
theorem aav(Z:Fz)(u:UW):mU Z u M0=Z:=by funext b;exact lz rfl
theorem aa.conv{P:Program}{g:FuncId}{args:List PV}{μ:Mem}{K:Kq}(h:aa P g args μ λv μ'=>∃v',mi M0 v v'/\K v' μ'):aa P g args μ K:=λZ u vs hg hw ha=>by
 obtain⟨hc,F,hF,h⟩:=h Z u vs hg hw ha
 refine⟨hc,F,hF,h.mono λv lo w' hm hs hp=>?_⟩
 obtain⟨Z',μ',p,e,g',hr,v',hb,hK⟩:=hp
 have:=hb.rep (g'.sub (μ':=M0) λb o h=>by cases h) hr
 rw[aav]at this
 exact⟨Z',μ',v',e,g',this,hK⟩
theorem aa.view{P:Program}{g:FuncId}{args aaW:List PV}{μ:Mem}{K:Kq}{Kp:PV->Prop}(h:ao P g aaW Kp)(hl:args.length=aaW.length)(hb:∀(i:Nat) p q,args[i]?=some p->aaW[i]?=some q->mi μ p q/\q.ok=true)(hf:∀p,Kp p->p.flat=true)(hk:∀p,Kp p->K p μ):aa P g args μ K:=λZ u vs hg hw ha=>by
 have hgb:Good (mU Z u μ) ⟨u.toWorld,λ_=>False⟩ M0:=⟨Ei hg,λb o h=>by cases h⟩
 have ha':bf (mU Z u μ) aaW vs:=⟨ha.1.trans hl,λi q v hq hv=>by
  have cz:i<args.length:=by rw[hl];exact(List.getElem?_eq_some_iff.1 hq).1
  have hp:args[i]?=some args[i]:=List.getElem?_eq_getElem cz
  obtain⟨h1,h2⟩:=hb i _ q hp hq
  exact⟨h2,h1.rep hg (ha.2 i _ v hp hv).2⟩⟩
 obtain⟨hc,F,hF,fu⟩:=h (mU Z u μ) ⟨u.toWorld,λ_=>False⟩ vs hgb (λ_ h=>h.elim) ha'
 refine⟨hc,F,λb hb=>(hF b hb).elim,fu.mono λv lo w' hm Wk hp=>?_⟩
 obtain⟨Z',μ',p,e,g',hr,hK⟩:=hp
 have de:∀b,b<u.heap.size->w'.heap[b]?=u.heap[b]?:=λb hb=>hm.de b hb λhf=>hF b hf
 refine⟨Z,μ,p,hg.ext,hg.go (Fz.le.refl Z) (λb C hC=>.inl ⟨hC,de b (hg.HD (by rw[hC];simp))⟩) (λb o ho=>.inl ⟨ho,de b (hg.Tl (by rw[ho];simp)),λhp=>.inl hp,rfl⟩),hr.flat (hf p hK),hk p hK⟩
section
variable {P:Program} {w:World} {n:Nat} {t:TypeId} {cs:List Value}
section
variable {H:Type} {enc:TypeId×Value->H} {r:Reach} {base:Nat} {v:Value} {d:DataW H} {p:List MemPlace}
theorem qL{T:Type}{pv:T->List PV}{Q:T->Prop}{fs:Array Field}(ht:P.underlying t=some (.struct fs))(he:∀m cs,Reads P w m t cs->∃s,bF (gA w) (pv s) cs/\Q s)(hv:Value.okWide P w r base t v)(h:DataW.Trod enc P w 0 (λ_=>true) true t v d p):
  ∃s,cy (gA w) (.agg (pv s)) v/\Q s:=by
 simp only[Value.okWide,ht]at hv
 obtain⟨cs,rfl,_,_⟩:=hv
 obtain⟨n,hn⟩:=Reads.of h
 obtain⟨s,e,hq⟩:=he n _ hn
 exact⟨s,e.pT,hq⟩
end
end
namespace ae
end ae
@[reducible] def abr(x y:Bind):Bool:=aJ x.v y.v&&((x.s.k == y.s.k)&&(aJ x.s.t y.s.t&&((x.s.n == y.s.n)&&true)))
theorem abt{x y:Bind}:abr x y=true↔x=y:=by
 obtain⟨v,⟨a,b,c⟩⟩:=x;obtain⟨v',⟨a',b',c'⟩⟩:=y
 simp[abr,bI]
end Go.aK
namespace Go.Proofs.YtbodiiomcfgokaaGreat
open Go.Proofs.Tryz Go.aK Go.RowKit
theorem rh(f:Fl)(l:List af)(n:Nat)(OK:n<=1000000):ao prog 69 [.list 12 f (l.map af.pv),pI (n:Nat)] λp=>∃q:Bool,p=pB q/\(q=true->l.length<=n):=by
 refine ao.of (cB.c (ab.mk (λh=>⟨false,rfl,λh=>by cases h⟩) (λh=>?_)))
 have hn:l.length<=n:=by simpa using h
 refine ak.each (n:=l.length) (by omega) (λ_ _=>True) trivial (λk u next hk _ ar=>?_) (λu next _=>ab.f (by simp) ⟨true,rfl,λ_=>hn⟩)
 refine ab.t (by simpa using hk) ⟨by omega,_,aw hk,_,rfl,ab.mk (λ_=>⟨false,rfl,λh=>by cases h⟩) (λ_=>⟨by omega,_,aw hk,_,rfl,ab.mk (λ_=>⟨false,rfl,λh=>by cases h⟩) (λ_=>⟨by omega,_,aw hk,_,rfl,ab.mk (λ_=>⟨false,rfl,λh=>by cases h⟩) (λ_=>ar _ trivial)⟩)⟩)⟩
theorem lE(f:Fl)(l:List af)(n:Nat)(OK:n<=1000000):ao prog 16 [.list 12 f (l.map af.pv),pI (n:Nat)] λp=>∃q:Bool,p=pB q/\(q=true->l.length<=n):=by
 refine ao.of (cD.c ?_)
 exact(rh f l n OK).call λp ⟨q,e,h⟩=>⟨q,e,q,rfl,h⟩
end Go.Proofs.YtbodiiomcfgokaaGreat
namespace Go.aK
open Go.RowKit
theorem aaV{e:TypeId}{sz bytes:Nat}{f:Fl}{rows:Lq}{L:List aY}{μ:Mem}{K:Option Addr->Nat->Nat->Mem->Prop}(hO:Ow L μ)(hr:∀r∈rows,r.length=sz)(hc:br rows.flatten=true)(hb:rows.length*bytes<=140737488355328)(tN:rows.length<4611686018427387904)
  (hk:∀a c μ',Ow (iW e sz (.raw (.slice a rows.length c)) rows::L) μ'->K a rows.length c μ'):lZ sz bytes e none 0 0 (.list sz f rows) μ K:=by
 have okr:vD sz sz rows=true:=by simp[vD,Nat.beq_refl]
 unfold lZ JR
 simp only[okr,cond_true,Nat.zero_add]
 refine⟨hb,tN,Nat.le_refl _,?_⟩
 cases rows with
 |nil=>exact .inl ⟨rfl,λh=>absurd rfl h,hk none 0 μ (iW.nil e sz hO)⟩
 |cons r rs=>
  refine .inr ⟨by simp,hc,λh=>by simp at h,λ_=>⟨[],.inl ⟨trivial,rfl⟩,λb' c' hn rI=>?_⟩⟩
  rw[List.nil_append]
  refine hk _ c' _ ?_
  have pq:(r::rs).flatten.length=(r::rs).length*sz:=gj hr
  refine(hO.new e _ hn).imp λν hν=>⟨[b'],.inr ⟨b',c',_,rfl,rfl,hν,?_,rI⟩⟩
  rw[List.length_replicate,<- Nat.add_mul];congr 1;omega
end Go.aK
namespace Go.Proofs.YtbodiiomcfgokaaGreat
open Go.aK Go.RowKit
abbrev kR(p:PV)(l:List aK.Bind):aY:=iW 88 4 p (l.map Bind.pv)
theorem abm(l:List aK.Bind):∀r∈l.map Bind.pv,r.length=4:=SG (pv:=Bind.pv) (λ_=>rfl) l
theorem abg(l:List aK.Bind):br (l.map Bind.pv).flatten=true:=FR (pv:=Bind.pv) (λ_=>rfl) l
end Go.Proofs.YtbodiiomcfgokaaGreat
namespace Go.aK
open Go.RowKit
section
variable (M:MD) (a0:Option Addr) (u0:Mem) (K:Kq) (ek:PV) (fg fp fd:FuncId)
def MD.len(fl:FuncId):Prop:=
 ab (Option.isNone a0)
 (K (pI (0)) u0)
 (nP a0 λb o=>
  ∃x,aB u0 b o 1=some [pA x]/\
  aa M.S.P fl [pA x] u0 λv u=>
  ∃n,v=(pI n)/\
  K (pI n) u)
end
namespace Wu
variable {M:MD} {KY VL κ:Type} {pr:KY×VL->List PV} {arg:KY×VL->PV} {pk:KY->List PV} {db:KY->PV} {pl:VL->List PV} {gI:VL->PV} {z:VL} {key:KY×VL->κ} {ck:κ->κ->Int} (O:Wu M pr arg pk db pl gI z key ck)
end Wu
theorem MD.K_{M:MD}{El:Type}{pr:El->List PV}{n fl:FuncId}(hn:∀{a0:Option Addr} {u0:Mem} {K:Kq},M.len a0 u0 K fl->aa M.S.P n [pA a0] u0 K)
  (hlen:∀ ⦃L:List aY⦄ ⦃μ:Mem⦄ ⦃b:Nat⦄ ⦃l:List El⦄,Ow (cT M.S.TS M.S.TE M.S.W b (l.map pr)::L) μ->∀ ⦃K:Kq⦄,K (pI (l.length:Nat)) μ->aa M.S.P fl [pP b 0] μ K)
  ⦃L:List aY⦄ ⦃μ:Mem⦄ ⦃m:Nat⦄ ⦃l:List El⦄ (hO:Ow (eV M pr m l::L) μ) ⦃K:Kq⦄ (hk:K (pI (l.length:Nat)) μ):aa M.S.P n [pP m 0] μ K:=by
 obtain⟨s,hO⟩:=eV.open_ hO
 exact hn (ab.f rfl ⟨_,hO.rd 0 rfl (by simp),hlen hO.swap ⟨_,rfl,hk⟩⟩)
end Go.aK
namespace Go.Proofs.YtbodiiomcfgokaaGreat
open Go.Proofs.Tryz Go.aK Go.RowKit
namespace RP
theorem Ta{a0:Option Addr}{u0:Mem}{K:Kq}(h:D.len a0 u0 K):aa prog 184 [pA a0] u0 K:=VC [] [] [] [] [] [] [] func184 h
def K_:=Ps.K_ (D:=D) (pr:=pv) Ta
theorem aaS{a0:Option Addr}{u0:Mem}{K:Kq}(h:M.len a0 u0 K 184):aa prog 119 [pA a0] u0 K:=VC [] [] [] [] [] [] [] func119 h
def af3:=MD.K_ (M:=M) (pr:=pv) aaS λ_ _ _ _ hO _ hk=>K_ hO hk
end RP
theorem acC{ts us:List cf}(h:ts.Pairwise λa b=>a.tags≠b.tags)(hp:ts.Perm us):cR ts=cR us:=by
 have h2:us.Pairwise λa b=>a.tags≠b.tags:=hp.pairwise h λ{a b} uk e=>uk e.symm
 exact CA h2 (fQ h).1 λy=>((fQ h).2 y).trans hp.mem_iff
section
variable {n:Nat} {x:NC} {es:List af} {ps:List Prod} {w:Nat}
theorem afY{L:List aY}{μ:Mem}(hO:Ow (bR n x es ps w::L) μ){K:Kq}(hk:∀μ',Ow (bR n x es ps w::L) μ'->K (pI ((ps.length:Nat):Int)) μ'):aa prog 57 [pP n 0] μ K:=by
 obtain⟨T,ms,ids,tk,ct,fr,mn,⟨hR,dQ⟩,h1⟩:=bR.open_ hO
 refine Ev.c ⟨_,aE (an.qz (x:=x) (es:=es) (ms:=ms) (ids:=ids) h1 (by simp)) (by simp),?_⟩
 refine RP.af3 (l:=ps.map (fZ T.B)) (Ow.ord [2] h1) ⟨_,rfl,?_⟩
 rw[List.length_map]
 exact hk μ hO
end
open K6
def abT(es:List af)(p:Prod):List Mt:=(qA es p).map λt=>⟨p.name,t.tags⟩
theorem abU{es:List af}(h:xu es)(p:Prod):abT es p=eB es p:=by
 unfold abT eB
 rw[<- Sg h,List.map_map];rfl
theorem abS{es fs:List af}(h:es.Perm fs)(hn:xu es)(p:Prod):eB es p=eB fs p:=by
 unfold eB
 rw[acC (dv hn p.conds) (kX h p.conds)]
theorem aaR{es fs:List af}(h:es.Perm fs)(hn:xu es)(ps:List Prod):allM es ps=allM fs ps:=by
 unfold allM
 congr 1
 funext p;exact abS h hn p
theorem yZ.ne{x:NC}{es:List af}{ps:List Prod}{y:tq}(h:yZ x es ps y):xu es:=kM h.up
theorem yZ.all{x:NC}{es:List af}{ps:List Prod}{y:tq}(h:yZ x es ps y):y.ps.flatMap (abT y.es)=allM es ps:=by
 rw[aaR h.es h.ne,h.ps]
 unfold allM
 congr 1
 funext p;exact abU h.ok.ne p
theorem zb{T:Type}{ck:T->T->Int}(hc:oF ck){U:Type}{key:U->T}{l:List U}(h:ca ck key l){a b:U}(ha:a∈l)(hb:b∈l)(e:key a=key b):a=b:=by
 have h1:=(aM hc h (k:=key a) (x:=a)).2 ⟨ha,rfl⟩
 have h2:=(aM hc h (k:=key a) (x:=b)).2 ⟨hb,e.symm⟩
 rw[h1]at h2;exact Option.some.inj h2
theorem abb{S T:Type}{g:S->T}{pv:T->List PV}{l:List S}{k:Nat}(hk:k<l.length):((l.map g).map pv)[Int.toNat (k:Int)]?=some (pv (g l[k])):=by
 rw[List.map_map];exact aw hk
theorem ra{ps:List Prod}(hu:ca aI cM ps){i:Nat}(hi:i<ps.length):aL aI cM ps[i].name ps=some ps[i]:=(aM aP hu).2 ⟨List.getElem_mem hi,rfl⟩
section
variable {r:Nat} {x:tq}
theorem jf.adV(h:jf x){p:Prod}(hp:p∈x.ps):(qA x.es p).length<=1024:=by
 have h1:=Jg h.b.1 (h.le p hp)
 have h2:=h.b.2
 rw[xB h.ne];omega
theorem abX(es:List af)(p:Prod):(abT es p).length=(qA es p).length:=by unfold abT;rw[List.length_map]
theorem jf.abM(h:jf x)(i:Nat):((x.ps.take i).flatMap (abT x.es)).length<=102400:=by
 rw[List.length_flatMap]
 have h1:=L_ (l:=x.ps.take i) (f:=λp=>(abT x.es p).length) (b:=1024) λp hp=>by rw[abX];exact h.adV (List.mem_of_mem_take hp)
 have h2:=h.Bg
 rw[List.length_take]at h1
 omega
theorem abz(h:jf x){L:List aY}{μ:Mem}(hO:Ow (aW r x::L) μ){K:Kq}(hk:∀f μ',Ow (aW r x::L) μ'->K (.list 2 f ((x.ps.flatMap (abT x.es)).map Mt.pv)) μ'):aa prog 38 [pP r 0] μ K:=by
 have ui:=h.Bg
 have zC:=λp hp=>h.adV (p:=p) hp
 have pq:=h.abM
 obtain⟨B,M,ps,es,tk,mo⟩:=x
 have iB:tk=ps.map (qA es):=h.tk
 subst iB
 dsimp only at ui zC pq hk |-
 obtain⟨f,sd⟩:=aW.open_ hO
 refine aap.c ?_
 refine ak.dm (n:=ps.length) (by omega) (λi s u=>s.2=((ps.take i).flatMap (abT es)).map Mt.pv/\Ow (eH s.1 ((ps.take i).flatMap (abT es)).length 2::Pt r 47 (tq.pv ⟨B,M,ps,es,ps.map (qA es),mo⟩ f)::L) u) ⟨rfl,sd.nil (.inl rfl)⟩ ?_ ?_
 ·rintro i ⟨f1,_⟩ u next hi ⟨rfl,h1⟩ ar
  have hl0:=pq i
  have zE:=zC _ (List.getElem_mem hi)
  refine⟨_,_,h1.rd 1 rfl (by simp),ab.t (by simpa using hi) ?_⟩
  refine ak.dm (n:=(qA es ps[i]).length) (by omega) (λk s u=>s.2=((ps.take i).flatMap (abT es)++(abT es ps[i]).take k).map Mt.pv/\Ow (eH s.1 (((ps.take i).flatMap (abT es)).length+k) 2::Pt r 47 (tq.pv ⟨B,M,ps,es,ps.map (qA es),mo⟩ f)::L) u) ⟨by simp,h1⟩ ?_ ?_
  ·rintro k ⟨f2,_⟩ u2 qc fH ⟨rfl,h2⟩ gq
   have hkm:k<(abT es ps[i]).length:=by rw[abX];exact fH
   refine⟨_,_,h2.rd 1 rfl (by simp),by omega,_,abb hi,_,_,rfl,ab.t (by simpa using fH) ⟨_,_,h2.rd 1 rfl (by simp),by omega,_,aw hi,_,rfl,_,_,h2.rd 1 rfl (by simp),by omega,_,abb hi,_,_,rfl,by omega,_,aw fH,_,_,rfl,?_⟩⟩
   have ek:Mt.pv (abT es ps[i])[k]=[pS ps[i].name,.list 1 .sh ((qA es ps[i])[k].tags.map gz)]:=by simp[abT]
   refine h2.app (by rw[List.length_map,List.length_append,List.length_take,Nat.min_eq_left (by omega)]) (by show(_+k+1)*40<=_;omega) (by show _+k+1<_;omega) λf3 u3 h3=>gq _ _ ⟨?_,h3⟩
   rw[fx hkm,<- List.append_assoc,List.map_append (l₂:=[(abT es ps[i])[k]]),List.map_singleton,ek]
  ·rintro⟨f2,_⟩ u2 qc ⟨rfl,h2⟩
   refine⟨_,_,h2.rd 1 rfl (by simp),by omega,_,abb hi,_,_,rfl,ab.f (by simp) (ar _ _ ⟨?_,?_⟩)⟩
   ·rw[<- abX,List.take_length,zL hi]
   ·rw[zL hi,List.length_append,abX];exact h2
 ·rintro⟨f1,_⟩ u next ⟨rfl,h1⟩
  rw[List.take_length]at h1 |-
  exact⟨_,_,h1.rd 1 rfl (by simp),ab.f (by simp) (hk f1 u (aW.shut (f:=f) h1.drop))⟩
theorem abE(h:jf x)(s:ByteArray)(tags:List Int)(ht:tags.length<=1000000)(f0:Fl){L:List aY}{μ:Mem}(hO:Ow (aW r x::L) μ){K:Kq}
  (h1:∀q,aL aI cM s x.ps=some q->∀t∈qA x.es q,t.tags=tags->K (.aD [.list 4 .sh (t.binds.map Bind.pv),pB true]) μ)
  (h0:(∀q,aL aI cM s x.ps=some q->∀t∈qA x.es q,t.tags≠tags)->K (.aD [.list 4 .nil [],pB false]) μ):
  aa prog 45 [pP r 0,.agg [pS s,.list 1 f0 (tags.map gz)]] μ K:=by
 have ui:=h.Bg
 have zC:=λp hp=>h.adV (p:=p) hp
 refine aas.c ?_
 refine Nq s (by omega) hO (λbU=>⟨_,_,rfl,?_⟩) λi hi he=>⟨_,_,rfl,?_⟩
 ·refine ak.each (n:=0) (by omega) (λ_ u=>u=μ) rfl (λk u next hk=>absurd hk (by omega)) ?_
  rintro u next rfl
  exact ab.f rfl (h0 λq hq=>absurd (hq.symm.trans (show aL aI cM s x.ps=none from(bx aP).2 bU)) (by simp))
 subst he
 have hg:=ra h.si hi
 have hm:=List.getElem_mem hi
 have zE:=zC _ hm
 have htg:∀t∈qA x.es x.ps[i],t.tags.length<=1000000:=λt ht=>by
  obtain⟨_,_,_,g4,_⟩:=(h.rE _ hm).facts
  have h2:=jC (es:=x.es) (l:=x.ps[i].conds) (ts:=[ub]) (m:=0) (by simp[ub]) t (((Js (FF h.ne _)).2 t).1 ht)
  have:=ch x.ps[i].conds
  omega
 have rJ:(x.tk.map oI)[Int.toNat ((i:Nat):Int)]?=some (oI (qA x.es x.ps[i])):=by rw[h.tk];exact abb hi
 obtain⟨f,sd⟩:=aW.open_ hO
 refine ak.each (n:=(qA x.es x.ps[i]).length) (by omega) (λk u=>(∀t∈(qA x.es x.ps[i]).take k,t.tags≠tags)/\u=μ) ⟨by simp,rfl⟩ ?_ ?_
 ·rintro k u next hk ⟨hn,rfl⟩ ar
  have aiu:=htg _ (List.getElem_mem hk)
  have more:∀(aT:(qA x.es x.ps[i])[k].tags≠tags),∀t∈(qA x.es x.ps[i]).take (k+1),t.tags≠tags:=λaT t ht=>by
   rw[fx hk,List.mem_append]at ht
   rcases ht with ht|ht
   ·exact hn t ht
   ·simp only[List.mem_singleton]at ht;rw[ht];exact aT
  refine ab.t rfl ⟨_,_,sd.rd 0 rfl (by simp),by omega,_,rJ,_,_,rfl,ab.t (by simpa using hk) ⟨_,_,sd.rd 0 rfl (by simp),by omega,_,rJ,_,_,rfl,by omega,_,aw hk,_,_,_,_,_,rfl,?_⟩⟩
  refine(ack _ _ _ _ (by omega) (by omega)).call ⟨_,rfl,ab.mk (λa=>?_) (λa=>?_)⟩
  ·refine(ack _ _ _ _ (by omega) (by omega)).call ⟨_,rfl,ab.mk (λb=>h1 _ hg _ (List.getElem_mem hk) ?_) (λb=>ar _ ⟨more λe=>?_,rfl⟩)⟩
   ·have a1:¬bG (qA x.es x.ps[i])[k].tags tags<0:=λcz=>by rw[(zz _ _).2 cz]at a;cases a
    have b1:¬bG tags (qA x.es x.ps[i])[k].tags<0:=λcz=>by rw[(zz _ _).2 cz]at b;cases b
    have:=dU.flip tags (qA x.es x.ps[i])[k].tags
    exact(dU.zero _ _).1 (by omega)
   ·have b1:oT tags (qA x.es x.ps[i])[k].tags=true:=by simpa using b
    rw[e,zz,dU.self]at b1;omega
  ·have a1:oT (qA x.es x.ps[i])[k].tags tags=true:=by simpa using a
   refine ar _ ⟨more λe=>?_,rfl⟩
   rw[e,zz,dU.self]at a1;omega
 ·rintro u next ⟨hn,rfl⟩
  rw[List.take_length]at hn
  exact ab.t rfl ⟨_,_,sd.rd 0 rfl (by simp),by omega,_,rJ,_,_,rfl,ab.f (by simp) (h0 λq hq t ht=>by rw[hg]at hq;cases hq;exact hn t ht)⟩
end
theorem vz(f g:Fl)(l m:List Int)(hl:l.length<=1000000000):aZ 77 [.list 1 f (l.map gz),.list 1 g (m.map gz)] (l=m):=by
 refine ao.of (dK.c (ab.mk (λh=>aZ.no (i_ h)) (λh=>?_)))
 refine fE (l:=l) (m:=m) (n:=l.length) rfl (ix h) (by omega) (λk hk bW u next hy cm=>?_) (λu next e=>ab.f (by simp) (aZ.yes e))
 exact ab.t (by simpa using hk) ⟨by omega,_,aw hk,_,rfl,by omega,_,aw bW,_,rfl,ab.mk (λh=>aZ.no (cm λe=>by rw[e]at h;simp at h)) (λh=>hy (by simpa using h) _)⟩
theorem JS{a b:Mt}(h1:a.name=b.name)(h2:a.tags=b.tags):a=b:=by cases a;cases b;simp_all
theorem sw(f g:Fl)(l m:List Mt)(hl:l.length<=1000000000)(ht:∀x∈l,x.tags.length<=1000000000):aZ 29 [.list 2 f (l.map Mt.pv),.list 2 g (m.map Mt.pv)] (l=m):=by
 refine ao.of (eJ.c (ab.mk (λh=>aZ.no (i_ h)) (λh=>?_)))
 refine fE (l:=l) (m:=m) (n:=l.length) rfl (ix h) (by omega) (λk hk bW u next hy cm=>?_) (λu next e=>ab.f (by simp) (aZ.yes e))
 refine ab.t (by simpa using hk) ⟨by omega,_,aw hk,_,rfl,by omega,_,aw bW,_,rfl,ab.mk (λh=>aZ.no (cm λe=>?_)) (λh=>⟨by omega,_,aw hk,_,_,rfl,by omega,_,aw bW,_,_,rfl,?_⟩)⟩
 ·rw[e,dX]at h;cases h
 ·have hn:l[k].name=m[k].name:=bI.1 (nt h)
  exact(vz .sh .sh _ _ (ht _ (List.getElem_mem hk))).call (λe=>⟨_,rfl,ab.f rfl (hy (JS hn e) _)⟩) (λaT=>⟨_,rfl,ab.t rfl (aZ.no (cm λe=>aT (by rw[e])))⟩)
theorem qS{p:Prod}(h:lb p):kO p:=⟨h.1,by have:=h.2.1;omega,by have:=h.2.2.1;omega⟩
theorem iz(f:Fl)(ps:List Prod)(n:Nat)(hn:n<=1000000):ao prog 30 [.list 3 f (ps.map Prod.pv),pI (n:Nat)] λv=>∃q:Bool,v=pB q/\(q=false->ps.length<=n/\∀p∈ps,kO p):=by
 refine ao.of (cG.c (ab.mk (λ_=>⟨true,rfl,λh=>by cases h⟩) (λh=>?_)))
 have hl:ps.length<=n:=by simpa using h
 refine ak.each (n:=ps.length) (by omega) (λk _=>∀p∈ps.take k,kO p) (by simp) (λk u next hk hI ar=>?_) (λu next hI=>ab.f (by simp) ⟨false,rfl,λ_=>⟨hl,by rwa [List.take_length]at hI⟩⟩)
 refine ab.t (by simpa using hk) ⟨by omega,_,aw hk,_,_,_,_,_,rfl,(wy .sh .sh ps[k]).call ?_⟩
 rintro _ ⟨q,rfl,hq⟩
 refine⟨_,rfl,ab.mk (λ_=>⟨true,rfl,λh=>by cases h⟩) (λhf=>ar _ λp hp=>?_)⟩
 rcases(dg hk).1 hp with hp|rfl
 ·exact hI p hp
 ·exact qS (hq hf)
theorem td(f1 f2:Fl)(ps:List Prod)(es:List af):ao prog 36 [.list 3 f1 (ps.map Prod.pv),.list 12 f2 (es.map af.pv)] λv=>∃q:Bool,v=pB q/\(q=true->oR ps 6/\es.length<=30):=by
 refine ao.of (eW.c ?_)
 refine(iz f1 ps 6 (by omega)).call ?_
 rintro _ ⟨q,rfl,hq⟩
 refine⟨_,rfl,ab.mk (λhf=>?_) (λ_=>⟨false,rfl,λh=>by cases h⟩)⟩
 refine(lE f2 es 30 (by omega)).call ?_
 rintro _ ⟨q2,rfl,Gr⟩
 exact⟨_,rfl,_,rfl,λht=>⟨hq (nb hf),Gr ht⟩⟩
theorem bR.facts{n:Nat}{x:NC}{es:List af}{ps:List Prod}{w:Nat}{L:List aY}{μ:Mem}(h:Ow (bR n x es ps w::L) μ):((bK es ps:Nat):Int)<=x.M/\x.M<=1024/\ca aA aH es/\ca aI cM ps/\(∀q∈ps,l_ q)/\ps.length<=w:=by
 obtain⟨_,_,_,_,_,_,_,⟨hR,hs⟩,_⟩:=bR.open_ h
 exact⟨hs,hR.mb.2,hR.core.use.inv.ua,hR.si,hR.rE,hR.xt⟩
theorem iq{es:List af}(hn:xu es)(p:Prod):(eB es p).length=(au es p.conds).length:=by unfold eB;rw[List.length_map,gQ (dv hn _)]
theorem ko{es:List af}(hn:xu es)(ps:List Prod):(allM es ps).length=bK es ps:=by
 unfold allM bK
 rw[List.length_flatMap]
 congr 1
 exact List.map_congr_left λp _=>iq hn p
theorem la{es:List af}(hn:xu es){p:Prod}(hp:l_ p):∀m∈eB es p,m.tags.length<=1000:=by
 intro m hm
 obtain⟨t,ht,rfl⟩:=List.mem_map.1 hm
 have ht:=((fQ (dv hn p.conds)).2 t).1 ht
 rw[<- gC]at ht
 obtain⟨q,hq,rfl⟩:=List.mem_map.1 ht
 have h1:=jC (es:=es) (l:=p.conds) (ts:=[ub]) (m:=0) (by simp[ub]) q hq
 obtain⟨_,_,_,g4,_⟩:=hp.facts
 have:=ch p.conds
 show q.tags.length<=1000
 omega
theorem Ac{es:List af}(hn:xu es){ps:List Prod}(hp:∀q∈ps,l_ q):∀m∈allM es ps,m.tags.length<=1000000000:=by
 intro m hm
 obtain⟨p,h1,h2⟩:=List.mem_flatMap.1 hm
 have:=la hn (hp p h1) m h2
 omega
section
variable {n:Nat} {x:NC} {es:List af} {ps:List Prod} {w:Nat}
theorem Bk(hw:w<=1000){L:List aY}{μ:Mem}(hO:Ow (bR n x es ps w::L) μ){F:Kq}(hk:∀f μ',Ow (bR n x es ps w::L) μ'->F (.list 2 f ((allM es ps).map Mt.pv)) μ'):aa prog 23 [JH n] μ F:=by
 obtain⟨h1,h2,h3,_⟩:=bR.facts hO
 exact zW (l:=allM es ps) (BP hw) (by rw[ko (kM h3)];omega) hO hk
theorem SO(f g:Fl){L:List aY}{μ:Mem}(hO:Ow (bR n x es ps w::L) μ){l:List Mt}(e:allM es ps=l){F:Kq}(hF:F (pB true) μ):aa prog 29 [.list 2 f ((allM es ps).map Mt.pv),.list 2 g (l.map Mt.pv)] μ F:=by
 obtain⟨h1,h2,h3,_,h5,_⟩:=bR.facts hO
 have hl:=ko (kM h3) ps
 exact(sw f g _ _ (by omega) (Ac (kM h3) h5)).call (λ_=>hF) (λaT=>absurd e aT)
end
@[reducible] def UF(f1 f2 f3:Fl)(T:Tree)(q:Prod):List PV:=[pS q.name,.list 7 f1 (q.conds.map ae.pv),.list 19 f2 (q.bp.map dh.pv),.list 1 f3 ((dE T.B q.conds).map λb=>[pP b 0])]
theorem abZ(f g:Fl)(l m:List aK.Bind)(hl:l.length<=1000000000):aZ 46 [.list 4 f (l.map Bind.pv),.list 4 g (m.map Bind.pv)] (l=m):=by
 refine ao.of (JP.c (ab.mk (λh=>aZ.no (i_ h)) (λh=>?_)))
 refine fE (l:=l) (m:=m) (n:=l.length) rfl (ix h) (by omega) (λk hk bW u next hy cm=>?_) (λu next e=>ab.f (by simp) (aZ.yes e))
 refine ab.t (by simpa using hk) ⟨by omega,_,aw hk,_,_,_,_,rfl,by omega,_,aw bW,_,_,_,_,rfl,ab.mk (λh=>aZ.no (cm λe=>?_)) (λh=>hy (abt.1 (nt h)) _)⟩
 have h':abr l[k] m[k]=false:=nb h
 rw[abt.2 e]at h';cases h'
theorem acI{a:Option Addr}{k2:Nat}{r:List aK.Bind}(hr:r.length<=1000000){L:List aY}{u:Mem}(hO:Ow (kR (.raw (.slice a r.length k2)) r::L) u){K:Mem->Prop}(hk:∀u',Ow L u'->K u'):
  ak (α:=Int) (λnext s u=>ab (decide ((s:Int)<((r.length:Nat):Int))) (cK a λb o=>(0:Int)<=s/\s<((r.length:Nat):Int)/\stM b (o+Int.toNat s*4) [pS ⟨#[103,111,110,101]⟩] u λu'=>next (IntKind.wrap .i64 (s+1)) u') (K u)) 0 u:=by
 refine ak.each (n:=r.length) (by omega) (λi u=>∃rows:Lq,rows.length=r.length/\(∀x∈rows,x.length=4)/\Ow (iW 88 4 (.raw (.slice a r.length k2)) rows::L) u) ⟨_,by simp,abm r,hO⟩ ?_ ?_
 ·rintro i u next hi ⟨rows,h1,h2,hO⟩ ar
  obtain⟨b,rfl,_,gV⟩:=iW.at_ 0 hO rfl h2 (j:=i) (by omega)
  refine ab.t (by simpa using hi) ⟨by omega,by omega,?_⟩
  rw[Int.toNat_natCast]
  have hl:rows[i].length=4:=h2 _ (List.getElem_mem (by omega))
  refine gV 0 [pS ⟨#[103,111,110,101]⟩] _ (by simp) λu' h=>ar _ ⟨_,by rw[List.length_set];exact h1,λx hx=>?_,h⟩
  rcases List.mem_or_eq_of_mem_set hx with h|rfl
  ·exact h2 x h
  ·unfold dN;simp only[List.length_append,List.length_take,List.length_drop,List.length_cons,List.length_nil];omega
 ·rintro u next ⟨rows,h1,h2,hO⟩
  exact ab.f (by simp) (hk _ hO.drop)
theorem acR{a b:Int}(ha:0<=a/\a<9223372036854775808)(hb: -9223372036854775808<=b/\b<9223372036854775808)(h:IntKind.wrap .i64 (a-b)=0):a=b:=by
 unfold IntKind.wrap at h
 simp[IntKind.signed,IntKind.bits]at h
 omega
theorem abK(f g:Fl){a b:List Int}(ha:Ai a)(hlb:b.length<=1000000)(hb:∀x∈b,-9223372036854775808<=x/\x<9223372036854775808):ao prog 111 [.list 1 f (a.map λx=>[pI x]),.list 1 g (b.map λx=>[pI x])] λp=>∃v,p=pI v/\(v=0↔a=b):=by
 refine ao.of (Lv.c ?_)
 have hla:=ha.le
 refine⟨λ_ u=>u=M0/\a.take (min a.length b.length)=b.take (min a.length b.length),?_,?_⟩
 ·refine ak.up (min a.length b.length) (by omega) (λk u=>u=M0/\a.take k=b.take k) ⟨rfl,rfl⟩ ?_
  rintro k u next hk ⟨rfl,hI⟩ ar
  simp only[List.length_map]
  by_cases h1:k<a.length
  ·by_cases h2:k<b.length
   ·refine ab.t (by simpa using h1) (ab.t (by simpa using h2) ⟨by omega,_,Ha h1,_,rfl,by omega,_,Ha h2,_,rfl,?_⟩)
    refine ab.mk (λe=>?_) (λe=>?_)
    ·refine⟨by omega,_,Ha h1,_,rfl,by omega,_,Ha h2,_,rfl,_,rfl,?_⟩
     have aT:a[k]≠b[k]:=by simpa using e
     have p1:=ha.pos _ (List.getElem_mem h1)
     have p2:=hb _ (List.getElem_mem h2)
     constructor
     ·intro hz
      exact absurd (acR p1 p2 hz) aT
     ·intro h;subst h;exact absurd rfl aT
    ·have he:a[k]=b[k]:=by simpa using e
     refine ar (by omega) _ ⟨rfl,?_⟩
     rw[List.take_add_one,List.take_add_one,hI,List.getElem?_eq_getElem h1,List.getElem?_eq_getElem h2,he]
   ·have:k=min a.length b.length:=by omega
    exact ab.t (by simpa using h1) (ab.f (by simp;omega) ⟨trivial,by rw[<- this];exact hI⟩)
  ·have:k=min a.length b.length:=by omega
   exact ab.f (by simp;omega) ⟨trivial,by rw[<- this];exact hI⟩
 ·rintro _ u ⟨rfl,hI⟩
  simp only[List.length_map]
  refine⟨_,rfl,?_⟩
  rw[az (by omega) (by omega)]
  constructor
  ·intro h
   have hl:a.length=b.length:=by omega
   rw[hl,Nat.min_self,List.take_length,<- hl,List.take_length]at hI
   exact hI
  ·rintro rfl;omega
section
variable {r:Nat} {x:tq}
theorem abB(h:jf x){L:List aY}{μ:Mem}(hO:Ow (aW r x::L) μ){K:Kq}(hk:∀f μ',Ow (eH f (x.ps.flatMap (abT x.es)).length 2::aW r x::L) μ'->K (.list 2 f ((x.ps.flatMap (abT x.es)).map Mt.pv)) μ'):aa prog 38 [pP r 0] μ K:=by
 have ui:=h.Bg
 have zC:=λp hp=>h.adV (p:=p) hp
 have pq:=h.abM
 obtain⟨B,M,ps,es,tk,mo⟩:=x
 have iB:tk=ps.map (qA es):=h.tk
 subst iB
 dsimp only at ui zC pq hk |-
 obtain⟨f,sd⟩:=aW.open_ hO
 refine aap.c ?_
 refine ak.dm (n:=ps.length) (by omega) (λi s u=>s.2=((ps.take i).flatMap (abT es)).map Mt.pv/\Ow (eH s.1 ((ps.take i).flatMap (abT es)).length 2::Pt r 47 (tq.pv ⟨B,M,ps,es,ps.map (qA es),mo⟩ f)::L) u) ⟨rfl,sd.nil (.inl rfl)⟩ ?_ ?_
 ·rintro i ⟨f1,_⟩ u next hi ⟨rfl,h1⟩ ar
  have hl0:=pq i
  have zE:=zC _ (List.getElem_mem hi)
  refine⟨_,_,h1.rd 1 rfl (by simp),ab.t (by simpa using hi) ?_⟩
  refine ak.dm (n:=(qA es ps[i]).length) (by omega) (λk s u=>s.2=((ps.take i).flatMap (abT es)++(abT es ps[i]).take k).map Mt.pv/\Ow (eH s.1 (((ps.take i).flatMap (abT es)).length+k) 2::Pt r 47 (tq.pv ⟨B,M,ps,es,ps.map (qA es),mo⟩ f)::L) u) ⟨by simp,h1⟩ ?_ ?_
  ·rintro k ⟨f2,_⟩ u2 qc fH ⟨rfl,h2⟩ gq
   have hkm:k<(abT es ps[i]).length:=by rw[abX];exact fH
   refine⟨_,_,h2.rd 1 rfl (by simp),by omega,_,abb hi,_,_,rfl,ab.t (by simpa using fH) ⟨_,_,h2.rd 1 rfl (by simp),by omega,_,aw hi,_,rfl,_,_,h2.rd 1 rfl (by simp),by omega,_,abb hi,_,_,rfl,by omega,_,aw fH,_,_,rfl,?_⟩⟩
   have ek:Mt.pv (abT es ps[i])[k]=[pS ps[i].name,.list 1 .sh ((qA es ps[i])[k].tags.map gz)]:=by simp[abT]
   refine h2.app (by rw[List.length_map,List.length_append,List.length_take,Nat.min_eq_left (by omega)]) (by show(_+k+1)*40<=_;omega) (by show _+k+1<_;omega) λf3 u3 h3=>gq _ _ ⟨?_,h3⟩
   rw[fx hkm,<- List.append_assoc,List.map_append (l₂:=[(abT es ps[i])[k]]),List.map_singleton,ek]
  ·rintro⟨f2,_⟩ u2 qc ⟨rfl,h2⟩
   refine⟨_,_,h2.rd 1 rfl (by simp),by omega,_,abb hi,_,_,rfl,ab.f (by simp) (ar _ _ ⟨?_,?_⟩)⟩
   ·rw[<- abX,List.take_length,zL hi]
   ·rw[zL hi,List.length_append,abX];exact h2
 ·rintro⟨f1,_⟩ u next ⟨rfl,h1⟩
  rw[List.take_length]at h1 |-
  exact⟨_,_,h1.rd 1 rfl (by simp),ab.f (by simp) (hk f1 u (h1.tail λ_ h=>aW.shut (f:=f) h))⟩
end
section
variable {n:Nat} {x:NC} {es:List af} {ps:List Prod} {w:Nat}
theorem abG(hw:w<=1000)(s:ByteArray)(tg:List Int)(htg:tg.length<=1000000/\∀x∈tg,-9223372036854775808<=x/\x<9223372036854775808)(f0:Fl){L:List aY}{μ:Mem}(hO:Ow (bR n x es ps w::L) μ){F:Kq}
  (h1:∀q,aL aI cM s ps=some q->∀t∈au es q.conds,t.tags=tg->∀a c μ',Ow (kR (.raw (.slice a t.binds.length c)) t.binds::bR n x es ps w::L) μ'->F (.aD [.raw (.slice a t.binds.length c),pB true]) μ')
  (h0:(∀q,aL aI cM s ps=some q->∀t∈au es q.conds,t.tags≠tg)->∀μ',Ow (bR n x es ps w::L) μ'->F (.aD [.raw (.slice none 0 0),pB false]) μ'):
  aa prog 44 [pP n 0,.agg [pS s,.list 1 f0 (tg.map gz)]] μ F:=by
 obtain⟨T,ms,ids,tk,ct,fr,mn,⟨hR,dQ⟩,h2⟩:=bR.open_ hO
 have ow:ps.length<=1000:=Nat.le_trans hR.xt hw
 have shut:∀{u:Mem} {M:List aY},Ow (dc n x es ms ids T tk ct fr mn ps M) u->Ow (bR n x es ps w::M) u:=λh=>bR.shut hR dQ h
 have no:∀μ',Ow (bR n x es ps w::L) μ'->(∀q,aL aI cM s ps=some q->∀t∈au es q.conds,t.tags≠tg)->∃v',mi M0 (.aD [.list 4 .nil [],pB false]) v'/\F v' μ':=λμ' h hc=>
  ⟨_,.aD (ds:=[.raw (.slice none 0 0),pB false]) rfl (by simp[PV.ok,PV.cell]) (λi x y hx hy=>by
   match i with
   |0=>simp at hx hy;subst hx hy;exact .nil 4 []
   |1=>simp at hx hy;subst hx hy;exact .same _
   |i+2=>simp at hx),h0 hc μ' h⟩
 refine aa.conv (aau.c ⟨λz u=>(z.2=true/\∃q b f1 f2 f3,aL aI cM s ps=some q/\z.1=some ⟨b,0,none⟩/\Ow (dc n x es ms ids T tk ct fr mn ps (Pt b 129 (UF f1 f2 f3 T q)::L)) u)\/(z.2=false/\aL aI cM s ps=none/\Ow (dc n x es ms ids T tk ct fr mn ps L) u),?_,?_⟩)
 ·refine⟨_,aE (an.qz (x:=x) (es:=es) (ms:=ms) (ids:=ids) h2 (by simp)) (by simp),?_,?_⟩
  ·refine RP.gO (Ow.at 2 rfl h2) hR.u (by rw[List.length_map];omega) s (λy u hy h3=>?_) (λu hy h3=>?_)
   ·rw[iL]at hy
    obtain⟨q,hq,rfl⟩:=Option.map_eq_some_iff.1 hy
    refine⟨_,_,_,_,_,_,_,_,rfl,λb4 xv=>?_⟩
    refine(h3.new _ _ xv).st 0 rfl (by simp) λu4 h4=>.inl ⟨rfl,q,b4,_,_,_,hq,rfl,Ow.ord [2,2,1,1,0] h4⟩
   ·rw[iL]at hy
    refine⟨_,_,_,_,_,_,_,_,rfl,λb4 xv=>?_⟩
    refine(h3.new _ _ xv).st 0 rfl (by simp) λu4 h4=>.inr ⟨rfl,Option.map_eq_none_iff.1 hy,Ow.ord [1,1,0,0] h4.drop⟩
  ·intro b4 xv
   have h2:=Ow.ord [1,1,1,1,0] (h2.new 129 [pS ⟨#[]⟩,.list 7 .nil [],.list 19 .nil [],.list 1 .nil []] xv)
   refine RP.gO (Ow.at 2 rfl h2) hR.u (by rw[List.length_map];omega) s (λy u hy h3=>?_) (λu hy h3=>?_)
   ·rw[iL]at hy
    obtain⟨q,hq,rfl⟩:=Option.map_eq_some_iff.1 hy
    refine⟨_,_,_,_,_,_,_,_,rfl,?_⟩
    refine h3.st 4 rfl (by simp) λu4 h4=>.inl ⟨rfl,q,b4,_,_,_,hq,rfl,Ow.ord [1,1,0,0,0] h4⟩
   ·rw[iL]at hy
    refine⟨_,_,_,_,_,_,_,_,rfl,?_⟩
    refine h3.st 4 rfl (by simp) λu4 h4=>.inr ⟨rfl,Option.map_eq_none_iff.1 hy,(Ow.ord [1,1,0,0,0] h4).tail λ_ h=>h.tail λ_ h=>h.tail λ_ h=>h.tail λ_ h=>h.drop⟩
 ·rintro⟨_,_⟩ u (⟨rfl,q,b,f1,f2,f3,hq,rfl,h2⟩|⟨rfl,cm,h2⟩)
  ·obtain⟨Dv,Qz⟩:=(aM aP hR.si).1 hq
   have aO:=hR.rE _ Dv
   have hD:=hR.pD _ Dv
   have zC:=hR.len hD
   obtain⟨_,_,_,_,_,g1,g2⟩:=aO.facts
   obtain⟨w1,w2⟩:=tC T.B g1 (by omega)
   have abj:=LW (p:=q.conds) hR.tags aO.qf (by omega)
   have iB:=hR.core.dH.tok _ hD
   obtain⟨Fl1,hF⟩:=cb.rd hD (Ow.ord [1] h2)
   refine ab.f rfl ?_
   dsimp only[nP,nn,aF]
   refine⟨_,_,h2.rd 4 rfl (by simp),_,_,h2.rd 4 rfl (by simp),w2,_,w1,_,rfl,?_⟩
   dsimp only[nP,nn,aF]
   refine⟨_,_,aE hF (by simp),?_⟩
   dsimp only[gK]
   simp only[iB]
   have fin:∀u',Ow (dc n x es ms ids T tk ct fr mn ps (Pt b 129 (UF f1 f2 f3 T q)::L)) u'->Ow (bR n x es ps w::L) u':=λu' h=>shut (h.tail λ_ h=>h.tail λ_ h=>h.tail λ_ h=>h.tail λ_ h=>h.drop)
   refine ak.each (n:=(au es q.conds).length) (by omega) (λk u'=>(∀t∈(au es q.conds).take k,t.tags≠tg)/\u'=u) ⟨by simp,rfl⟩ ?_ ?_
   ·rintro k u3 next hk ⟨cm,rfl⟩ ar
    refine ab.t (by simpa using hk) ⟨by omega,_,aw hk,_,_,_,_,rfl,(abK _ _ (abj _ (List.getElem_mem hk)) htg.1 htg.2).call ?_⟩
    rintro _ ⟨v,rfl,hv⟩
    refine⟨_,rfl,ab.mk (λhe=>?_) (λaT=>ar _ ⟨λt ht=>?_,rfl⟩)⟩
    ·have he:(au es q.conds)[k].tags=tg:=hv.1 (by simpa using he)
     have ZR:(au es q.conds)[k].binds.length<=1000000:=by
      have:=(pR (es:=es) aO.qf _ (List.getElem_mem hk)).1
      omega
     refine aaV h2 (abm _) (abg _) (by simp;omega) (by simp;omega) λa c u4 h4=>?_
     rw[List.length_map]at h4 |-
     exact⟨_,.same _,h1 q hq _ (List.getElem_mem hk) he a c u4 (h4.tail λ_ h=>fin _ h)⟩
    ·rw[fx hk,List.mem_append]at ht
     rcases ht with ht|ht
     ·exact cm t ht
     ·simp only[List.mem_singleton]at ht
      subst ht
      exact λe=>by rw[hv.2 e]at aT;simp at aT
   ·rintro u3 next ⟨cm,rfl⟩
    rw[List.take_length]at cm
    exact ab.f (by simp) (no _ (fin _ h2) (λq' LH t ht=>by rw[hq]at LH;cases LH;exact cm t ht))
  ·exact ab.t rfl (no _ (shut h2) (λq' LH=>by rw[cm]at LH;cases LH))
end
section
variable {n r:Nat} {x:NC} {es:List af} {ps:List Prod} {w:Nat} {y:tq}
theorem abv(hw:w<=1000)(hb:yZ x es ps y){L:List aY}{u:Mem}(h:Ow (bR n x es ps w::aW r y::L) u){F:Kq}(hF:∀u',Ow (bR n x es ps w::aW r y::L) u'->F (pB true) u'):
  aa prog 43 [pP n 0,pP r 0] u F:=by
 refine aac.c ?_
 refine⟨(DW n).call ⟨_,_,_,rfl,Bk hw h λf u1 h1=>⟨_,_,rfl,abz hb.ok (Ow.swap h1) λg u2 h2=>⟨_,_,rfl,?_,trivial⟩,trivial⟩,trivial⟩,trivial⟩
 refine SO _ _ (Ow.swap h2) hb.all.symm ⟨_,rfl,ab.t rfl ?_⟩
 have heq:∀a:Nat,a=y.ps.length->(((a:Nat):Int) == (((y.ps.map Prod.pv).length:Nat):Int))=true:=λa e=>by rw[e,List.length_map];simp
 obtain⟨f1,h3⟩:=aW.open_ h2
 refine⟨⟨_,_,h3.rd 0 rfl (by simp),afY (Ow.swap h2) λu3 h4=>⟨_,rfl,?_⟩,trivial⟩,afY (Ow.swap h2) λu3 h4=>⟨_,rfl,?_⟩,trivial⟩
 ·rw[heq _ (by rw[hb.ps])];exact hF _ h4
 ·obtain⟨f2,h5⟩:=aW.open_ (Ow.swap h4)
  refine⟨_,_,h5.rd 0 rfl (by simp),?_⟩
  rw[heq _ (by rw[hb.ps])];exact hF _ h4
theorem bR.abY{L:List aY}{μ:Mem}(h:Ow (bR n x es ps w::L) μ):∀q∈ps,∀t∈au es q.conds,Ai t.tags:=by
 obtain⟨_,_,_,_,_,_,_,⟨hR,hs⟩,_⟩:=bR.open_ h
 intro q hq
 obtain⟨_,_,_,_,_,_,g2⟩:=(hR.rE q hq).facts
 exact LW hR.tags (hR.rE q hq).qf (by omega)
end
theorem abH(ps:List Prod)(_:(∀s∈ps,True)/\ps.length<=maxLen)(es:List af)(_:(∀s∈es,True)/\es.length<=maxLen)(m:Mt)(ZE:∀x∈m.tags,(Lit.int .i64 x).wf=true):Pure prog 7 [.list 3 .sh (ps.map Prod.pv),.list 12 .sh (es.map af.pv),.agg m.pv] (pB true):=by
 have hm:∀x∈m.tags,-9223372036854775808<=x/\x<9223372036854775808:=λx hx=>by
  have h:=ZE x hx
  simp[Lit.wf,IntKind.min,IntKind.max,IntKind.signed,IntKind.bits]at h
  omega
 refine ao.of (aaa.c ?_)
 refine⟨λs u=>s=false->oR ps 6/\es.length<=30/\m.tags.length<=40,?_,?_⟩
 ·refine(td .sh .sh ps es).call ?_
  rintro _ ⟨q,rfl,hq⟩
  refine⟨_,rfl,ab.mk (λh h'=>by cases h') (λh=>ab.mk (λh2 h'=>by cases h') (λh2 _=>⟨(hq (nt h)).1,(hq (nt h)).2,?_⟩))⟩
  have h2:=of_decide_eq_false h2
  rw[List.length_map]at h2
  omega
 rintro b u hs
 refine ab.mk (λ_=>dS u) (λhf=>?_)
 obtain⟨hp,he,nR⟩:=hs hf
 refine tU .sh .sh (by omega) hp es (by omega) (L:=[]) trivial λn r x fw fW y u1 hT hM ht IY eZ hb h1=>⟨_,_,rfl,ab.f rfl ?_⟩
 obtain⟨dQ,hM1,hu,IV,TN,ow⟩:=bR.facts h1
 have aT:=kM hu
 have iP:=hb.all
 have hlen:(allM fw fW).length<=1024:=by rw[ko aT];omega
 refine⟨λs u=>s.2=(allM fw fW++[m]).map Mt.pv/\Ow (bR n x fw fW 20::aW r y::[]) u,?_,?_⟩
 ·have main:∀{G:Kq},(∀f u5,(aV false 2 40 f ((allM fw fW).map Mt.pv) [[pS m.name,.list 1 .sh (m.tags.map gz)]] u5 λf45 u6=>(allM fw fW).map Mt.pv++[[pS m.name,.list 1 .sh (m.tags.map gz)]]=(allM fw fW++[m]).map Mt.pv/\Ow (bR n x fw fW 20::aW r y::[]) u6)->G (.list 2 f ((allM fw fW).map Mt.pv)) u5)->aa prog 38 [pP r 0] u1 G:=λ{G} hG=>by
   refine abB hb.ok (Ow.swap h1) λf u2 h2=>?_
   rw[iP]at h2 |-
   refine hG f u2 (h2.app (by rw[List.length_map]) (by show(_+1)*40<=_;omega) (by show _+1<_;omega) λg u3 h3=>⟨?_,Ow.swap h3.drop⟩)
   rw[List.map_append];rfl
  refine⟨⟨?_,⟨?_,trivial⟩,trivial⟩,?_,trivial⟩
  all_goals first
   |exact main λf u5 h=>⟨_,_,rfl,⟨h,trivial⟩,trivial⟩
   |exact main λf u5 h=>⟨_,_,rfl,h,trivial⟩
   |exact main λf u5 h=>⟨_,_,rfl,⟨⟨h,trivial⟩,trivial⟩,trivial⟩
 rintro⟨f0,_⟩ u2 ⟨rfl,h2⟩
 have abO:∀k∈allM fw fW++[m],k.tags.length<=1000000/\∀x∈k.tags,-9223372036854775808<=x/\x<9223372036854775808:=λk hk=>by
  rcases List.mem_append.1 hk with hk|hk
  ·obtain⟨p,hp1,hp2⟩:=List.mem_flatMap.1 hk
   obtain⟨t,ht1,rfl⟩:=List.mem_map.1 hp2
   have:=bR.abY h1 p hp1 t (((fQ (dv aT p.conds)).2 t).1 ht1)
   exact⟨this.le,λx hx=>by have:=this.pos x hx;omega⟩
  ·simp only[List.mem_singleton]at hk
   subst hk
   exact⟨by omega,hm⟩
 refine ak.each (n:=(allM fw fW++[m]).length) (by simp;omega) (λi u=>Ow (bR n x fw fW 20::aW r y::[]) u) h2 ?_ ?_
 ·rintro i u3 next hi h3 ar
  obtain⟨jw,fH⟩:=abO _ (List.getElem_mem hi)
  generalize hA:(allM fw fW++[m])=A at hi jw fH |-
  refine ab.t (decide_eq_true (by rw[List.length_map];exact Int.ofNat_lt.2 hi)) ⟨by omega,_,aw hi,_,_,_,rfl,?_⟩
  refine abG (by omega) A[i].name A[i].tags ⟨jw,fH⟩ .sh h3 (λq hq t ht1 htt a c u4 h4=>?_) (λcm u4 h4=>?_)
  ·refine⟨_,_,_,_,rfl,by omega,_,aw hi,_,_,_,rfl,?_⟩
   refine abE hb.ok A[i].name A[i].tags (by omega) .sh (Ow.ord [2] h4) (λq' LH t' BU abQ=>?_) (λcm=>?_)
   ·rw[hb.ps,hq]at LH
    cases LH
    have Bu:t'.tok∈au fw q.conds:=by
     have h5:t'.tok∈(qA y.es q).map dr.tok:=List.mem_map.2 ⟨t',BU,rfl⟩
     rw[Sg hb.ok.ne]at h5
     have h6:=((fQ (dv hb.ok.ne q.conds)).2 _).1 h5
     exact(kX hb.es _).mem_iff.2 h6
    have abP:t'.tok=t:=by
     obtain⟨k1,k2⟩:=fQ (dv aT q.conds)
     exact zb dU k1 ((k2 _).2 Bu) ((k2 _).2 ht1) (by show t'.tags=t.tags;rw[htt,abQ])
    have hbe:t'.binds=t.binds:=congrArg cf.binds abP
    have ZR:t.binds.length<=1000000:=by
     have Gr:=(aM aP IV).1 hq
     obtain⟨_,_,_,g4,_⟩:=(TN q Gr.1).facts
     have:=(pR (es:=fw) (TN q Gr.1).qf _ ht1).1
     have:=ch q.conds
     omega
    rw[hbe]
    refine⟨_,_,_,rfl,ab.f rfl ?_⟩
    refine aa.view (aaW:=[.list 4 .sh (t.binds.map Bind.pv),.list 4 .sh (t.binds.map Bind.pv)]) (abZ .sh .sh t.binds t.binds (by omega)) rfl (λi p q hp hq=>?_) (λp ⟨q,e,_⟩=>by rw[e];rfl) ?_
    ·match i with
     |0=>simp only[List.getElem?_cons_zero,Option.some.injEq]at hp hq;subst hp hq;exact⟨iW.view 0 h4 rfl (abm _) (abg _),rfl⟩
     |1=>simp only[List.getElem?_cons_zero,List.getElem?_cons_succ,Option.some.injEq]at hp hq;subst hp hq;exact⟨.same _,rfl⟩
     |i+2=>simp at hp
    ·rintro _ ⟨q,rfl,hq⟩
     obtain rfl:q=true:=hq.2 rfl
     exact⟨_,rfl,ab.f rfl (acI ZR h4 λu5 h5=>ar _ h5)⟩
   ·exfalso
    rw[hb.ps]at cm
    have h5:t∈(qA y.es q).map dr.tok:=by
     rw[Sg hb.ok.ne]
     exact((fQ (dv hb.ok.ne q.conds)).2 _).2 ((kX hb.es _).mem_iff.1 ht1)
    obtain⟨t',BU,rfl⟩:=List.mem_map.1 h5
    exact cm q hq t' BU htt
  ·refine⟨_,_,_,_,rfl,by omega,_,aw hi,_,_,_,rfl,?_⟩
   refine abE hb.ok A[i].name A[i].tags (by omega) .sh (Ow.ord [1] h4) (λq' LH t' BU abQ=>?_) (λ_=>?_)
   ·exfalso
    rw[hb.ps]at LH
    have h5:t'.tok∈(qA y.es q').map dr.tok:=List.mem_map.2 ⟨t',BU,rfl⟩
    rw[Sg hb.ok.ne]at h5
    have h6:=((fQ (dv hb.ok.ne q'.conds)).2 _).1 h5
    exact cm q' LH t'.tok ((kX hb.es _).mem_iff.2 h6) abQ
   ·refine⟨_,_,_,rfl,ab.f rfl ?_⟩
    refine aa.view (aaW:=[.list 4 .sh (([]:List aK.Bind).map Bind.pv),.list 4 .nil (([]:List aK.Bind).map Bind.pv)]) (abZ .sh .nil [] [] (by simp)) rfl (λi p q hp hq=>?_) (λp ⟨q,e,_⟩=>by rw[e];rfl) ?_
    ·match i with
     |0=>simp only[List.getElem?_cons_zero,Option.some.injEq]at hp hq;subst hp hq;exact⟨.Xw none 0 4 (.inl rfl),rfl⟩
     |1=>simp only[List.getElem?_cons_zero,List.getElem?_cons_succ,Option.some.injEq]at hp hq;subst hp hq;exact⟨.same _,rfl⟩
     |i+2=>simp at hp
    ·rintro _ ⟨q,rfl,hq⟩
     obtain rfl:q=true:=hq.2 rfl
     refine⟨_,rfl,ab.f rfl ?_⟩
     exact ak.each (n:=0) (by omega) (λ_ u=>u=u4) rfl (λk u next hk=>absurd hk (by omega)) (λu qc hu=>ab.f rfl (by subst hu;exact ar _ h4))
 ·rintro u3 next h3
  refine ab.f (decide_eq_false (by rw[List.length_map];omega)) ?_
  exact abv (by omega) hb h3 λu4 h4=>⟨_,rfl,ab.t rfl (dS _)⟩
set_option maxRecDepth 100000
section
variable {w:World}
theorem jq:prog.cellsOf 78=12:=by kernel_rfl
theorem ph(n:Nat)(cs:List Value)(h:Reads prog w n 78 cs):∃s:af,bF (gA w) s.pv cs/\True:=by
 obtain⟨m,rfl,hl,hf⟩:=h.struct underlying78
 rw[jq]at hl
 obtain⟨a,e0,_⟩:=kN _ _ (dR hf 0 0 jS rfl rfl rfl)
 obtain⟨b,e1,_⟩:=kN _ _ (dR hf 1 3 jS rfl rfl rfl)
 obtain⟨c,e2,_⟩:=kN _ _ (dR hf 2 6 jS rfl rfl rfl)
 obtain⟨i3,e3⟩:=(dR hf 3 9 lV rfl rfl rfl).pbool underlying4
 obtain⟨i4,e4⟩:=(dR hf 4 10 lV rfl rfl rfl).pbool underlying4
 obtain⟨i5,e5,_⟩:=(dR hf 5 11 sk rfl rfl rfl).CQ underlying3
 match cs,hl with
 |[x0,x1,x2,x3,x4,x5,x6,x7,x8,x9,Y_,x11],_=>exact⟨⟨a,b,c,_,_,_⟩,((((e0.append e1).append e2).append e3).append e4).append e5,trivial⟩
end
section
variable {w:World}
theorem acN:prog.cellsOf 51=2:=by kernel_rfl
theorem acM:prog.cellsOf 45=1:=by kernel_rfl
theorem acw(n:Nat)(cs:List Value)(h:Reads prog w n 51 cs):∃m:Mt,bF (gA w) m.pv cs/\∀x∈m.tags,(Lit.int .i64 x).wf=true:=by
 obtain⟨m,rfl,hl,hf⟩:=h.struct underlying51
 rw[acN]at hl
 obtain⟨i0,e0,_⟩:=(dR hf 0 0 pW rfl rfl rfl).Qb underlying9
 obtain⟨l,e1,hq,_⟩:=(dR hf 1 1 acM rfl rfl rfl).FY (pv:=gz) (Q:=λx=>(Lit.int .i64 x).wf=true) underlying45 sk (by omega) λm' Wr _ hr=>hr.CQ underlying3
 match cs,hl with
 |[x0,x1],_=>exact⟨⟨i0,l⟩,e0.append e1,hq⟩
end
open Go.ChangeShapes Go.WideShapes Go.ChangeAt
set_option maxRecDepth 100000 in
theorem ReteBinds.lifted(os:Os)(started:os.Started)(H:Type)(enc:TypeId×Value->H):
  ReturnsInHanded {} Tryz.checked os 7 .any (Rows.reteBindsSpec.pre6 enc prog f7 Rows.reteBindsRow.domain false) (Rows.reteBindsSpec.post enc prog f7 false true false false):=by
 refine returnsInHanded_of_change (C:=Tryz.checked) qK started (by kernel_rfl) func7
  (ChangeSpec.witness6 (enc:=enc) (C:=Tryz.checked) false ⟨#[],#[.slice none 0 0,.slice none 0 0,.agg #[.string ByteArray.empty,.slice none 0 0]],[]⟩ 12 (by kernel_rfl) (by kernel_rfl) (by kernel_rfl) (by kernel_rfl)) ?_
 intro W base args ds gs before jH hW QG _
 have gU:∀(j:Nat) t v,f7.params[j]?=some t->args[j]?=some v->Value.okWide prog W .any base t v:=jH
 have QI:=hW
 obtain⟨p,q,Gv,hV,rfl,ZM,Bv⟩:=hW
 have hA:DataW.TrodAll enc prog W 0 (λ_=>true) true f7.params.toList args.toList ds p:=Gv
 rw[params7]at hA gU
 obtain⟨v0,vs0,d0,ds0,p0,q0,AW,rfl,rfl,h0,r0⟩:=trodAll_cons hA
 obtain⟨v1,WA,d1,ds1,p1,q1,rfl,rfl,rfl,h1,r1⟩:=trodAll_cons r0
 obtain⟨v2,vs2,d2,ds2,p2,q2,rfl,rfl,rfl,h2,r2⟩:=trodAll_cons r1
 obtain⟨rfl,rfl,rfl⟩:=trodAll_nil r2
 obtain rfl:args= #[v0,v1,v2]:=by cases args;simp_all
 obtain⟨rfl,rfl⟩:=trodVars_none hV
 have Qq:∀x∈p0,x.block<W.heap.size:=by obtain⟨m,hm⟩:=h0;exact DataW.trod_lt m _ _ _ hm
 obtain⟨a0,e0,w0⟩:=iY underlying43 Cm (by omega) vv (gU 0 43 v0 rfl rfl) h0
 have Qp:∀x∈p1,x.block<W.heap.size:=by obtain⟨m,hm⟩:=h1;exact DataW.trod_lt m _ _ _ hm
 obtain⟨a1,e1,w1⟩:=iY underlying29 jq (by omega) ph (gU 1 29 v1 rfl rfl) h1
 have Tm:∀x∈p2,x.block<W.heap.size:=by obtain⟨m,hm⟩:=h2;exact DataW.trod_lt m _ _ _ hm
 obtain⟨a2,e2,w2⟩:=qL underlying51 acw (gU 2 51 v2 rfl rfl) h2
 clear Gv jH
 refine(ao.calls (vs:=[v0,v1,v2]) (abH a0 w0 a1 w1 a2 w2) (bf.cons rfl e0 (bf.cons rfl e1 (bf.cons rfl e2 (bf.nil _))))).mono λe W' ⟨⟨v,x,Z,he,hr,hx⟩,tj⟩=>?_
 subst hx;subst he;rw[hr.ofRaw.1]
 exact⟨_,rfl,_,_,_,[],_,[],QI,trodAll_mk1 (shut_bool underlying4 _),(trodAll_cons_mk (Below.trod dj (by kernel_rfl) (of_decide_eq_true (by kernel_rfl)) h0 tj Qq) (trodAll_cons_mk (Below.trod dj (by kernel_rfl) (of_decide_eq_true (by kernel_rfl)) h1 tj Qp) (trodAll_cons_mk (Below.trod dj (by kernel_rfl) (of_decide_eq_true (by kernel_rfl)) h2 tj Tm) trodAll_mk0))),rfl,tj.frame _,λh=>by cases h⟩
theorem and2{a b:Bool}(h:a=true)(k:b=true):(a&&b)=true:=by rw[h,k];rfl
set_option maxHeartbeats 0 in
theorem ReteBinds.closed:joinedFacts Tryz.checked.prog 7 f7 Rows.reteBindsSpec Rows.reteBindsRow=true:=by
 unfold joinedFacts
 repeat' with_reducible apply and2
 all_goals (as_aux_lemma=>kernel_rfl)
theorem ReteBinds.proved:Rows.ReteBindsSaid:=
 OpenClaim.holds_of_wide 7 f7 rfl rfl rfl rfl rfl rfl rfl ⟨rfl,rfl,rfl,rfl,rfl⟩ rfl rfl rfl rfl rfl (by kernel_rfl) func7 ReteBinds.closed
  (of_decide_eq_true (by kernel_rfl)) (by unfold Func.isWrapper;first|(rw[if_pos (by decide +kernel)];kernel_rfl)|(rw[if_neg (by decide +kernel)];exact⟨rfl,rfl⟩))
  (λos started H enc _=>ReteBinds.lifted os started H enc)
end Go.Proofs.YtbodiiomcfgokaaGreat
