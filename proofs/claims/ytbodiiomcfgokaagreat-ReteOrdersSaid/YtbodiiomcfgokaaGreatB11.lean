import Derived.Test.YtbodiiomcfgokaaGreatB10
set_option linter.all false
namespace Go.Proofs.YtbodiiomcfgokaaGreat
open Go.aK Go.RowKit
def hasB(K:List ByteArray)(v:ByteArray):Bool:=K.any λx=>aJ x v
theorem sP{K:List ByteArray}{v:ByteArray}:hasB K v=true↔v∈K:=by
 unfold hasB
 rw[List.any_eq_true]
 constructor
 ·rintro⟨x,hx,e⟩;rw[bI]at e;exact e▸hx
 ·intro h;exact⟨v,h,bI.2 rfl⟩
def rP(K:List ByteArray)(v:ByteArray):List ByteArray:=bif hasB K v then[]else[v]
theorem xW(K:List ByteArray)(v:ByteArray):(rP K v).length<=1:=by unfold rP;cases hasB K v<;>simp
def ug(K:List ByteArray)(t:Test):Option (List ByteArray):=
 bif (t.rel == 8)||aJ t.var ⟨#[]⟩then some K else bif t.rel == 1 then some (K++rP K t.var)else bif hasB K t.var then some K else none
def jO:List ByteArray->List Test->Option (List ByteArray)
 |K,[]=>some K
 |K,t::ts=>match ug K t with
  |some K'=>jO K' ts
  |none=>none
theorem sF(K:List ByteArray)(a b:List Test):jO K (a++b)=(jO K a).bind λK'=>jO K' b:=by
 induction a generalizing K with
 |nil=>rfl
 |cons t a ih=>
  simp only[List.cons_append,jO]
  cases ug K t with
  |none=>rfl
  |some K'=>exact ih K'
theorem zv{K K':List ByteArray}{ts:List Test}{i:Nat}(hi:i<ts.length)(h:jO K (ts.take i)=some K'):jO K (ts.take (i+1))=ug K' ts[i]:=by
 rw[List.take_add_one,sF,h,List.getElem?_eq_getElem hi]
 simp only[Option.bind_some,Option.toList_some,jO]
 cases ug K' ts[i]<;>rfl
theorem Gg{K K':List ByteArray}{ts:List Test}{i:Nat}(hi:i<ts.length)(h:jO K (ts.take i)=some K')(hn:ug K' ts[i]=none):jO K ts=none:=by
 have:ts=ts.take (i+1)++ts.drop (i+1):=(List.take_append_drop _ _).symm
 rw[this,sF,zv hi h,hn];rfl
def rQ(K:List ByteArray)(c:ae):Option (List ByteArray):=
 (λK0=>bif hasB K0 c.id then(jO K0 c.attr).bind λK1=>jO K1 c.value else none) (bif c.goal then K++rP K c.id else K)
mutual
def yf:ae->Nat->List ByteArray->Except Nat (List ByteArray)
 | .mk k g i a v ac cs,n,K=>
   bif k == 3 then(match fL cs (n+1) K with
    | .error e=>.error e
    | .ok _=>.ok K)
   else match rQ K (.mk k g i a v ac cs)with
    |none=>.error n
    |some K'=>.ok (bif k == 1 then K' else K)
def fL:List ae->Nat->List ByteArray->Except Nat (List ByteArray)
 |[],_,K=>.ok K
 |c::cs,n,K=>match yf c n K with
  | .error e=>.error e
  | .ok K'=>fL cs (n+aR c) K'
end
theorem Dl(c:ae)(n:Nat)(K:List ByteArray):yf c n K=(bif c.kind == 3 then(match fL c.conds (n+1) K with
   | .error e=>.error e
   | .ok _=>.ok K)
  else match rQ K c with
   |none=>.error n
   |some K'=>.ok (bif c.kind == 1 then K' else K)):=by cases c;simp only[yf];rfl
theorem ye(a b:List ae)(n:Nat)(K:List ByteArray):fL (a++b) n K=match fL a n K with
  | .error e=>.error e
  | .ok K'=>fL b (n+aj a) K':=by
 induction a generalizing n K with
 |nil=>simp[fL,aj]
 |cons c a ih=>
  simp only[List.cons_append,fL,aj]
  cases yf c n K with
  |error e=>rfl
  |ok K'=>simp only[ih];rw[Nat.add_assoc]
theorem vR{l:List ae}{n i:Nat}{K K':List ByteArray}(hi:i<l.length)(h:fL (l.take i) n K=.ok K'):fL (l.take (i+1)) n K=yf l[i] (n+aj (l.take i)) K':=by
 rw[List.take_add_one,ye,h,List.getElem?_eq_getElem hi]
 simp only[Option.toList_some,fL]
 cases yf l[i] (n+aj (l.take i)) K'<;>rfl
theorem nM{l:List ae}{n i e:Nat}{K K':List ByteArray}(hi:i<l.length)(h:fL (l.take i) n K=.ok K')(hn:yf l[i] (n+aj (l.take i)) K'=.error e):fL l n K=.error e:=by
 have:l=l.take (i+1)++l.drop (i+1):=(List.take_append_drop _ _).symm
 rw[this,ye,vR hi h,hn]
def Xk(t:Test):Prop:=t.rel=8->aJ t.var ⟨#[]⟩=true
mutual
def LB:ae->Prop
 | .mk k _ _ a v _ cs=>(k=3\/((k=1\/k=2)/\cs.length=0))/\a.length<=4/\v.length<=4/\(∀t∈a,Xk t)/\(∀t∈v,Xk t)/\RD cs
def RD:List ae->Prop
 |[]=>True
 |c::cs=>LB c/\RD cs
end
theorem CV(c:ae):LB c↔(c.kind=3\/((c.kind=1\/c.kind=2)/\c.conds.length=0))/\c.attr.length<=4/\c.value.length<=4/\(∀t∈c.attr,Xk t)/\(∀t∈c.value,Xk t)/\RD c.conds:=by cases c;rfl
theorem Ot{l:List ae}:RD l↔∀c∈l,LB c:=by
 induction l with
 |nil=>simp[RD]
 |cons c l ih=>simp[RD,ih]
theorem Jj{t:Test}(h:eQ t=true):Xk t:=λe=>by
 unfold eQ at h
 simp only[e,beq_self_eq_true,cond_true,Bool.and_eq_true]at h
 exact h.1
theorem UN{c:ae}{d:Int}(h:bQ c d=0):(c.kind=3\/((c.kind=1\/c.kind=2)/\c.conds.length=0))/\c.attr.length<=4/\c.value.length<=4/\(∀t∈c.attr,Xk t)/\(∀t∈c.value,Xk t):=by
 unfold bQ at h
 cases h3:c.kind == 3 with
 |true=>
  rw[h3]at h
  simp only[cond_true]at h
  have hk:c.kind=3:=by simpa using h3
  cases hb:(c.goal||(!aJ c.id ⟨#[]⟩||(decide (0<c.attr.length)||(decide (0<c.value.length)||(c.acc||decide (c.conds.length=0))))))with
  |true=>rw[hb]at h;simp at h
  |false=>
   simp only[Bool.or_eq_false_iff,decide_eq_false_iff_not]at hb
   obtain⟨_,_,ha,hv,_⟩:=hb
   refine⟨.inl hk,by omega,by omega,λt ht=>?_,λt ht=>?_⟩
   ·have:=List.length_pos_of_mem ht;omega
   ·have:=List.length_pos_of_mem ht;omega
 |false=>
  rw[h3]at h
  simp only[cond_false]at h
  cases mw:(c.kind == 1)||(c.kind == 2)with
  |false=>rw[mw]at h;simp at h
  |true=>
   rw[mw]at h
   simp only[cond_true]at h
   have hk:c.kind=1\/c.kind=2:=by simpa using mw
   cases hb:(decide (0<c.conds.length)||(!kL c.id||decide (c.attr.length=0)))with
   |true=>rw[hb]at h;simp at h
   |false=>
    rw[hb]at h
    simp only[cond_false]at h
    cases hm:(decide (4<c.attr.length)||decide (4<c.value.length))with
    |true=>rw[hm]at h;simp at h
    |false=>
     rw[hm]at h
     simp only[cond_false]at h
     cases ht:(!(c.attr.all eQ)|| !(c.value.all eQ))with
     |true=>rw[ht]at h;simp at h
     |false=>
      simp only[Bool.or_eq_false_iff,decide_eq_false_iff_not,Bool.not_eq_false',List.all_eq_true]at hb hm ht
      exact⟨.inr ⟨hk,by omega⟩,by omega,by omega,λt h=>Jj (ht.1 t h),λt h=>Jj (ht.2 t h)⟩
theorem Bf{l:List (Nat×Nat×ae)}(h:dB l=none):∀x∈l,bQ x.2.2 x.2.1=0:=by
 induction l with
 |nil=>intro x hx;cases hx
 |cons y l ih=>
  obtain⟨a,d,c⟩:=y
  simp only[dB]at h
  cases hc:bQ c d == 0 with
  |false=>rw[hc]at h;cases h
  |true=>
   rw[hc]at h
   intro x hx
   rcases List.mem_cons.1 hx with rfl|hx
   ·simpa using hc
   ·exact ih h x hx
mutual
theorem Xm:∀(c:ae) (a d:Nat),(∀x∈iN c a d,bQ x.2.2 x.2.1=0)->LB c
 | .mk k g i at_ v ac cs,a,d,h=>by
   have h0:=UN (h (a,d,.mk k g i at_ v ac cs) (by simp[iN]))
   exact⟨h0.1,h0.2.1,h0.2.2.1,h0.2.2.2.1,h0.2.2.2.2,Hv cs (a+1) (d+1) λx hx=>h x (by simp[iN,hx])⟩
theorem Hv:∀(l:List ae) (a d:Nat),(∀x∈dI l a d,bQ x.2.2 x.2.1=0)->RD l
 |[],_,_,_=>trivial
 |c::cs,a,d,h=>⟨Xm c a d λx hx=>h x (by simp[dI,hx]),Hv cs (a+aR c) d λx hx=>h x (by simp[dI,hx])⟩
end
def qg(K:List ByteArray)(a:Atom):Bool:= !aJ a.var ⟨#[]⟩&& !hasB K a.var
def j_(K:List ByteArray)(a:dh):Bool:=qg K a.attr||((a.value.op != 0)&&(qg K a.value.a||qg K a.value.b))
def jy(K:List ByteArray):Nat->List dh->Option Nat
 |_,[]=>none
 |i,a::l=>bif j_ K a then some i else jy K (i+1) l
theorem Be{K:List ByteArray}{l:List dh}{k i:Nat}(hk:k<l.length)(h:jy K i (l.take k)=none):jy K i (l.take (k+1))=(bif j_ K l[k]then some (i+k)else none):=by
 induction l generalizing k i with
 |nil=>simp at hk
 |cons a l ih=>
  cases k with
  |zero=>simp[jy]
  |succ k=>
   simp only[List.take_succ_cons,jy,List.getElem_cons_succ]at h |-
   cases ha:j_ K a with
   |true=>rw[ha]at h;cases h
   |false=>
    rw[ha]at h
    simp only[cond_false]at h |-
    rw[ih (by simpa using hk) h]
    congr 2;omega
theorem DK{K:List ByteArray}{l:List dh}{k i:Nat}(hk:k<l.length)(h:jy K i (l.take k)=none)(ha:j_ K l[k]=true):jy K i l=some (i+k):=by
 induction l generalizing k i with
 |nil=>simp at hk
 |cons a l ih=>
  cases k with
  |zero=>simp only[List.getElem_cons_zero]at ha;simp[jy,ha]
  |succ k=>
   simp only[List.take_succ_cons,jy,List.getElem_cons_succ]at h ha |-
   cases hb:j_ K a with
   |true=>rw[hb]at h;cases h
   |false=>
    rw[hb]at h
    simp only[cond_false]at h |-
    rw[ih (by simpa using hk) h ha]
    congr 1;omega
def cg(p:Prod):Int×Int×List ByteArray:=
 bif (dF p).2 != 0 then((dF p).1,(dF p).2,[])else
 bif (p.conds.head?.map ae.kind).getD 0 != 1 then(0,9,[])else
 match fL p.conds 0 []with
 | .error n=>((n:Int),6,[])
 | .ok K=>match jy K 0 p.bp with
   |some i=>(((aj p.conds+i:Nat):Int),6,[])
   |none=>(-1,0,K)
theorem zh{p:Prod}(h:(dF p).2=0):1<=aj p.conds/\aj p.conds<=16/\1<=p.bp.length/\p.bp.length<=16/\RD p.conds:=by
 unfold dF at h
 cases hw:kL p.name with
 |false=>rw[hw]at h;simp at h
 |true=>
  rw[hw]at h
  simp only[Bool.not_true,cond_false]at h
  cases hb:(decide (aj p.conds<1)||(decide (16<aj p.conds)||(decide (p.bp.length<1)||decide (16<p.bp.length))))with
  |true=>rw[hb]at h;simp at h
  |false=>
   rw[hb]at h
   simp only[cond_false]at h
   simp only[Bool.or_eq_false_iff,decide_eq_false_iff_not]at hb
   refine⟨by omega,by omega,by omega,by omega,Hv _ 0 0 (Bf ?_)⟩
   unfold nA at h
   split at h
   ·rename_i a e he
    exfalso
    have:∀l:List (Nat×Nat×ae),dB l=some (a,e)->e≠0:=by
     intro l
     induction l with
     |nil=>intro h;cases h
     |cons y l ih=>
      obtain⟨a',d,c⟩:=y
      simp only[dB]
      cases hc:bQ c d == 0 with
      |true=>exact ih
      |false=>
       intro h
       simp only[cond_false,Option.some.injEq,Prod.mk.injEq]at h
       rw[<- h.2];simpa using hc
    exact this _ he h
   ·assumption
open Go.Proofs.Tryz
namespace K6
def LX(fl:Fl):List Nat:=match fl with| .pU b _=>[b]|_=>[]
abbrev tF:TypeId:=216
abbrev Jf:TypeId:=9
def yF(μ:Mem)(p:PV)(row:List ByteArray)(F:List Nat):Prop:=(p=.list 1 .nil []/\row=[]/\F=[])\/yG Jf 1 μ p (da row) F
theorem yF.at_{μ:Mem}{p:PV}{row:List ByteArray}{F:List Nat}(h:yF μ p row F):∀x∈F,μ x≠none:=by
 rcases h with⟨_,_,rfl⟩|h
 ·intro x hx;cases hx
 ·exact h.at_
theorem yF.same{μ μ':Mem}{p:PV}{row:List ByteArray}{F:List Nat}(h:yF μ p row F)(hk:∀x∈F,μ' x=μ x):yF μ' p row F:=by
 rcases h with h|h
 ·exact .inl h
 ·exact .inr (h.same hk)
theorem yF.view{μ:Mem}{p:PV}{row:List ByteArray}{F:List Nat}(h:yF μ p row F):mi μ p (.list 1 .sh (da row)):=by
 rcases h with⟨rfl,rfl,_⟩|h
 ·exact .wk (.list 1 .nil [])
 ·exact h.view (dA _) (kY _)
structure kI(μ:Mem)(k:Nat)(K row:List ByteArray)(F:List Nat):Prop where
 ex:∃b L p Fs Fr,μ k=some (.cells tF [pP b 0,p])/\Em μ b L Fs/\Up aI L/\(∀y,y∈L↔y∈K)/\L.length<=K.length/\yF μ p row Fr/\k∉Fs/\(∀x∈Fr,x≠k/\x∉Fs)/\F=k::(Fs++Fr)
 row:row.length<=K.length
theorem kI.at_{μ:Mem}{k:Nat}{K row:List ByteArray}{F:List Nat}(h:kI μ k K row F):∀x∈F,μ x≠none:=by
 obtain⟨b,L,p,Fs,Fr,h1,h2,_,_,_,h3,_,_,rfl⟩:=h.ex
 intro x hx
 simp only[List.mem_cons,List.mem_append]at hx
 rcases hx with rfl|hx|hx
 ·rw[h1];simp
 ·exact h2.at_.2 x hx
 ·exact h3.at_ x hx
theorem kI.same{μ μ':Mem}{k:Nat}{K row:List ByteArray}{F:List Nat}(h:kI μ k K row F)(hk:∀x∈F,μ' x=μ x):kI μ' k K row F:=by
 obtain⟨b,L,p,Fs,Fr,h1,h2,h3,h4,h5,h6,h7,h8,rfl⟩:=h.ex
 exact⟨⟨b,L,p,Fs,Fr,by rw[hk k (by simp)];exact h1,h2.same λx hx=>hk x (by simp[hx]),h3,h4,h5,h6.same λx hx=>hk x (by simp[hx]),h7,h8,rfl⟩,h.row⟩
theorem kI.raw{μ:Mem}{k:Nat}{K row:List ByteArray}{F:List Nat}(h:kI μ k K row F):∃μ',GU μ μ'/\Mv μ μ' F F/\∃b L p Fs Fr,μ' k=some (.cells tF [pP b 0,p])/\Em μ' b L Fs/\Up aI L/\(∀y,y∈L↔y∈K)/\L.length<=K.length/\yG Jf 1 μ' p (da row) Fr/\k∉Fs/\(∀x∈Fr,x≠k/\x∉Fs)/\F=k::(Fs++Fr):=by
 obtain⟨b,L,p,Fs,Fr,h1,h2,h3,h4,h5,h6,h7,h8,rfl⟩:=h.ex
 rcases h6 with⟨rfl,rfl,rfl⟩|h6
 ·refine⟨μ.set k (some (.cells tF [pP b 0,.raw (.slice none 0 0)])),GU.bor (μ1:=M0) (λ_ _ h=>by cases h) λx o hx=>⟨rfl,?_⟩,(Mv.set (.inl (by simp))).sub (by simp),b,L,_,Fs,[],Mem.aq _ _ _,h2.same λx hx=>Mem.aC _ _ (λe=>h7 (e▸hx)),h3,h4,h5,.inl ⟨rfl,rfl,rfl⟩,h7,h8,rfl⟩
  by_cases e:x=k
  ·subst e
   rw[Mem.aq]at hx;cases hx
   exact .inr ⟨tF,_,_,rfl,h1,mY.cons (.same _) (mY.cons (.nil 1 []) (mY.nil _))⟩
  ·rw[Mem.aC _ _ e]at hx;exact .inl hx
 ·exact⟨μ,GU.refl μ,Mv.refl _ _,b,L,p,Fs,Fr,h1,h2,h3,h4,h5,h6,h7,h8,rfl⟩
theorem Vm{μ:Mem}{k:Nat}{K row:List ByteArray}{F:List Nat}(h:kI μ k K row F)(hl:K.length<=100000)(v:ByteArray){R:Kq}(hk:∀μ' F',kI μ' k (K++rP K v) (row++rP K v) F'->Mv μ μ' F F'->R (.aD []) μ'):aa prog 254 [pP k 0,pS v] μ R:=by
 have eT:=h.row
 obtain⟨μ0,hG,ZE,b,L,p,Fs,Fr,h1,h2,h3,h4,h5,h6,h7,h8,rfl⟩:=h.raw
 refine aa.pre hG (yJ.c ?_)
 refine⟨_,aE h1 (by simp),gW h2 h3 (by omega) v λμ1 L1 F1 t ht i1 i2 i3 i4 i5=>⟨_,rfl,?_⟩⟩
 have hkF:μ1 k=μ0 k:=i5.de k (by rw[h1];simp) h7
 have hFr:∀x∈Fr,μ1 x=μ0 x:=λx hx=>i5.de x (h6.at_ x hx) (h8 x hx).2
 have Yh:=h6.same hFr
 have Gw:=hkF.trans h1
 have abu:k∉F1:=λhm=>(i5.grow k hm).elim h7 λe=>by rw[h1]at e;cases e
 have abe:∀x∈Fr,x∉F1:=λx hx hm=>(i5.grow x hm).elim (h8 x hx).2 (h6.at_ x hx)
 have AS:Mv μ0 μ1 (k::(Fs++Fr)) (k::(F1++Fr)):=by
  refine(i5.wide (G:=k::(Fs++Fr)) λx hx=>by simp[hx]).sub λx hx=>?_
  simp only[List.mem_cons,List.mem_append]at hx |-
  rcases hx with h|h|h
  ·exact .inr (.inl h)
  ·exact .inl h
  ·exact .inr (.inr (.inr h))
 refine ab.mk (λe=>?_) (λe=>?_)
 ·have hn:v∉K:=λhv=>ht.1 e ((h4 v).2 hv)
  have hb:hasB K v=false:=by
   cases hb:hasB K v with
   |false=>rfl
   |true=>exact absurd (sP.1 hb) hn
  have ll:rP K v=[v]:=by unfold rP;rw[hb];rfl
  rw[ll]at hk
  obtain⟨a,c,rfl,q_⟩:=Yh.app (dA row)
  refine⟨_,_,_,aE Gw (by simp),?_⟩
  simp only[dM]at q_
  rw[dM]
  refine q_ [pS v] 16 _ rfl rfl (by omega) (by omega) λb' c' rest μ2 iK kQ rI uX=>?_
  have nk:b'≠k:=by
   rintro rfl
   rcases uX.grow b' (by simp)with h|h
   ·exact(h8 b' h).1 rfl
   ·rw[Gw]at h;cases h
  have nF:b'∉F1:=λhx=>by
   rcases uX.grow b' (by simp)with h|h
   ·exact abe b' h hx
   ·exact i1.at_.2 b' hx h
  have fH:μ2 k=μ1 k:=uX.de k (by rw[Gw];simp) λhx=>(h8 k hx).1 rfl
  refine⟨_,_,fH.trans Gw,by simp,?_⟩
  have hw:dN [pP b 0,.raw (.slice a (da row).length c)] (0+1) [PV.raw (.slice (some ⟨b',0,none⟩) (row.length+1) c')]=[pP b 0,.raw (.slice (some ⟨b',0,none⟩) (row.length+1) c')]:=by simp[dN]
  rw[hw]
  have aiU:Mv μ1 μ2 (k::(F1++Fr)) (k::(F1++[b'])):=by
   refine(uX.wide (G:=k::(F1++Fr)) λx hx=>by simp[hx]).sub λx hx=>?_
   simp only[List.mem_cons,List.mem_append,List.not_mem_nil,or_false]at hx |-
   rcases hx with h|h|h
   ·exact .inr (.inl h)
   ·exact .inr (.inr (.inl h))
   ·exact .inl h
  refine hk _ (k::(F1++[b'])) ⟨⟨b,L1,_,F1,[b'],Mem.aq _ _ _,i1.same λx hx=>?_,i2,λy=>?_,by rw[e]at i4;simp at i4 |-;omega,.inr (.inr ⟨b',c',rest,?_,rfl,?_,?_,?_⟩),abu,λx hx=>?_,rfl⟩,by simp;omega⟩ (ZE.trans (AS.trans (aiU.trans ((Mv.set (.inl (by simp))).sub (by simp)))))
  ·rw[Mem.aC _ _ (show x≠k from λe=>abu (e▸hx))]
   exact uX.de x (i1.at_.2 x hx) λLD=>abe x LD hx
  ·rw[i3,h4];simp[or_comm]
  ·simp
  ·rw[Mem.aC _ _ nk,iK];simp[da]
  ·simpa using kQ
  ·simpa using rI
  ·simp at hx;subst hx;exact⟨nk,nF⟩
 ·have hv:v∈K:=by
   refine Classical.byContradiction λhn=>?_
   have:=ht.2 λhv=>hn ((h4 v).1 hv)
   rw[e]at this;cases this
  have ll:rP K v=[]:=by unfold rP;rw[sP.2 hv];rfl
  rw[ll,List.append_nil,List.append_nil]at hk
  refine hk μ1 (k::(F1++Fr)) ⟨⟨b,L1,p,F1,Fr,Gw,i1,i2,λy=>?_,?_,.inr Yh,abu,λx hx=>⟨(h8 x hx).1,abe x hx⟩,rfl⟩,eT⟩ (ZE.trans AS)
  ·rw[i3,h4];exact⟨λh=>h.elim (λe=>e▸hv) id,.inr⟩
  ·rw[e]at i4;simp at i4;omega
theorem aco{μ:Mem}{k:Nat}{K row:List ByteArray}{F:List Nat}(h:kI μ k K row F)(hl:K.length<=100000)(v:ByteArray){R:Kq}(hk:R (pB (hasB K v)) μ):aa prog 196 [pP k 0,pS v] μ R:=by
 obtain⟨b,L,p,Fs,Fr,h1,h2,h3,h4,h5,h6,h7,h8,rfl⟩:=h.ex
 refine yK.c ?_
 refine⟨_,aE h1 (by simp),tc h2 h3 (by omega) v λi t hf=>⟨_,_,rfl,?_⟩⟩
 have:t=hasB K v:=by
  have e:t=true↔hasB K v=true:=by rw[hf.mem aP,h4,sP]
  exact Bool.eq_iff_iff.2 e
 rw[this];exact hk
theorem acn{μ:Mem}{k:Nat}{K row:List ByteArray}{F:List Nat}(h:kI μ k K row F){R:Kq}(hk:∀μ' k2 F1 F2,kI μ' k K row F1->kI μ' k2 K [] F2->(∀x∈F2,x∉F1)->Mv μ μ' F (F1++F2)->R (pP k2 0) μ'):aa prog 194 [pP k 0] μ R:=by
 have rJ:=h.at_
 obtain⟨b,L,p,Fs,Fr,h1,h2,h3,h4,h5,h6,h7,h8,rfl⟩:=h.ex
 refine uv.c ?_
 refine⟨_,aE h1 (by simp),acu h2 λμ1 b2 rU aT i1 i2 i3=>⟨_,rfl,λk2 fH=>?_⟩⟩
 have hkF:μ1 k=μ k:=i3.de k (by rw[h1];simp) h7
 have jw:μ1 k≠none:=by rw[hkF,h1];simp
 have aeK:∀x∈Fr,μ1 x=μ x:=λx hx=>i3.de x (rJ x (by simp[hx])) (h8 x hx).2
 have n1:∀x,μ1 x≠none->x≠k2:=λx hx e=>hx (e▸fH)
 have nb2:b2≠k:=by
  rintro rfl
  rcases rU with h|h
  ·exact h7 h
  ·rw[h1]at h;cases h
 have hbk:b≠k:=by rintro rfl;exact h7 h2.at_.1
 have aes:∀x∈Fr,x≠b/\x≠b2:=λx hx=>⟨λe=>(h8 x hx).2 (e▸h2.at_.1),λe=>by
  subst e
  rcases rU with h|h
  ·exact(h8 x hx).2 h
  ·exact rJ x (by simp[hx]) h⟩
 have adY:∀x∈Fr,μ1 x≠none:=λx hx=>by rw[aeK x hx];exact rJ x (by simp[hx])
 refine hk _ k2 (k::([b]++Fr)) (k2::([b2]++[])) ⟨⟨b,L,p,[b],Fr,?_,i1.same λx hx=>?_,h3,h4,h5,h6.same λx hx=>?_,by simp[Ne.symm hbk],λx hx=>⟨(h8 x hx).1,by simp[(aes x hx).1]⟩,rfl⟩,h.row⟩ ⟨⟨b2,L,_,[b2],[],Mem.aq _ _ _,i2.same λx hx=>?_,h3,h4,h5,.inl ⟨rfl,rfl,rfl⟩,?_,λx hx=>by simp at hx,rfl⟩,by simp⟩ (λx hx=>?_) ?_
 ·rw[Mem.aC _ _ (n1 k jw),hkF];exact h1
 ·exact Mem.aC _ _ (n1 x (i1.at_.2 x hx))
 ·rw[Mem.aC _ _ (n1 x (adY x hx))];exact aeK x hx
 ·exact Mem.aC _ _ (n1 x (i2.at_.2 x hx))
 ·simp only[List.mem_singleton];rintro rfl;exact i2.at_.2 k2 (by simp) fH
 ·simp only[List.append_nil,List.mem_cons,List.not_mem_nil,or_false]at hx
  intro LD
  simp only[List.mem_cons,List.mem_append,List.not_mem_nil,or_false]at LD
  rcases hx with rfl|rfl
  ·rcases LD with e|e|e
   ·exact jw (e▸fH)
   ·exact i1.at_.2 x (by simp[e]) fH
   ·exact adY x e fH
  ·rcases LD with e|e|e
   ·exact nb2 e
   ·exact aT e
   ·exact(aes x e).2 rfl
 ·refine((i3.wide (G:=k::(Fs++Fr)) λx hx=>by simp[hx]).trans (Mv.set (.inr fH))).sub λx hx=>?_
  simp only[List.append_nil,List.mem_cons,List.mem_append,List.not_mem_nil,or_false]at hx |-
  rcases hx with(rfl|rfl|hx)|rfl|rfl
  ·simp
  ·simp
  ·simp[hx]
  ·simp
  ·simp
theorem Vr{μ:Mem}{k:Nat}{K row:List ByteArray}{F:List Nat}(h:kI μ k K row F)(fl:Fl)(ts:List Test)(hl:K.length+ts.length<=100000){R:Kq}
  (aO:∀μ' F' K' e,jO K ts=some K'->K'=K++e->e.length<=ts.length->kI μ' k K' (row++e) F'->Mv μ μ' F F'->R (pB true) μ') (cm:∀μ' F',jO K ts=none->Mv μ μ' F F'->R (pB false) μ'):aa prog 255 [pP k 0,.list 6 fl (ts.map Test.pv)] μ R:=by
 refine uw.c ?_
 refine ak.each (n:=ts.length) (by omega) (λi u=>∃Ki e Fi,jO K (ts.take i)=some Ki/\Ki=K++e/\e.length<=i/\kI u k Ki (row++e) Fi/\Mv μ u F Fi) ⟨K,[],F,by simp[jO],by simp,by simp,by simpa using h,Mv.refl _ _⟩ ?_ ?_
 ·rintro i u next hi ⟨Ki,e,Fi,i1,rfl,i2,i3,i4⟩ ar
  have hlen:(K++e).length<=100000:=by rw[List.length_append];omega
  refine ab.t (by simpa using hi) ⟨by omega,_,aw hi,_,_,_,_,_,_,_,rfl,?_⟩
  have hT:=zv hi i1
  have same:ug (K++e) ts[i]=some (K++e)->∀u',u'=u->next (IntKind.wrap .i64 ((i:Int)+1)) u':=λhm u' iu=>by
   subst iu
   exact ar _ ⟨K++e,e,Fi,by rw[hT,hm],rfl,by omega,i3,i4⟩
  refine ab.mk (λh8=>same (by simp[ug,h8]) _ rfl) (λh8=>ab.mk (λhv=>same (by simp[ug,hv]) _ rfl) (λhv=>ab.mk (λh1=>?_) (λh1=>?_)))
  ·refine Vm i3 hlen ts[i].var λμ' F' j1 j2=>⟨rfl,ar _ ⟨K++(e++rP (K++e) ts[i].var),e++rP (K++e) ts[i].var,F',?_,rfl,?_,by rw[List.append_assoc,List.append_assoc]at j1;exact j1,i4.trans j2⟩⟩
   ·rw[hT];simp[ug,h8,hv,h1]
   ·have:=xW (K++e) ts[i].var;rw[List.length_append];omega
  ·refine aco i3 hlen ts[i].var ⟨_,rfl,ab.mk (λhh=>?_) (λhh=>?_)⟩
   ·refine cm u Fi (Gg hi i1 ?_) i4
    have hh:hasB (K++e) ts[i].var=false:=nb hh
    simp[ug,h8,hv,h1,hh]
   ·have hh:hasB (K++e) ts[i].var=true:=nt hh
    exact same (by simp[ug,h8,hv,h1,hh]) _ rfl
 ·rintro u next ⟨Ki,e,Fi,i1,rfl,i2,i3,i4⟩
  rw[List.take_length]at i1
  exact ab.f (by simp) (aO u Fi _ e i1 rfl i2 i3 i4)
theorem af1{μ:Mem}{k:Nat}{K row:List ByteArray}{F:List Nat}(h:kI μ k K row F)(c:ae)(hc:LB c)(hl:K.length<=10000){R:Kq}
  (aO:∀μ' F' K' e,rQ K c=some K'->K'=K++e->e.length<=9->kI μ' k K' (row++e) F'->Mv μ μ' F F'->R (pB true) μ') (cm:∀μ' F',rQ K c=none->Mv μ μ' F F'->R (pB false) μ'):aa prog 195 [pP k 0,.agg c.pv] μ R:=by
 obtain⟨_,ha,hv,_,_,_⟩:=(CV c).1 hc
 rw[ae.cP]
 refine yI.c ?_
 have go:∀(u:Mem) (e:List ByteArray) (F1:List Nat),K++e=(bif c.goal then K++rP K c.id else K)->e.length<=1->kI u k (K++e) (row++e) F1->Mv μ u F F1->
   aa prog 196 [pP k 0,pS c.id] u λJe tD=>∃x14,Je=pB x14/\ab x14 (aa prog 255 [pP k 0,.list 6 .sh (c.attr.map Test.pv)] tD λSc IQ=>∃x19,Sc=pB x19/\ab x19 (aa prog 255 [pP k 0,.list 6 .sh (c.value.map Test.pv)] IQ λv_3 EB=>∃x25,v_3=pB x25/\R (pB x25) EB) (R (pB false) IQ)) (R (pB false) tD):=by
  intro u e F1 he hle i1 i2
  have hm:rQ K c=(bif hasB (K++e) c.id then(jO (K++e) c.attr).bind λK1=>jO K1 c.value else none):=by unfold rQ;rw[<- he]
  have hlen:(K++e).length<=10001:=by rw[List.length_append];omega
  refine aco i1 (by omega) c.id ⟨_,rfl,ab.mk (λhh=>?_) (λhh=>cm u F1 (by rw[hm,hh];rfl) i2)⟩
  rw[hh]at hm
  refine Vr i1 .sh c.attr (by omega) (λμ1 F2 K1 e1 j1 j2 j3 j4 j5=>⟨_,rfl,ab.t rfl ?_⟩) (λμ1 F2 j1 j5=>⟨_,rfl,ab.f rfl (cm μ1 F2 (by rw[hm,j1];rfl) (i2.trans j5))⟩)
  subst j2
  refine Vr j4 .sh c.value (by rw[List.length_append];omega) (λμ2 F3 K2 e2 l1 l2 l3 l4 l5=>⟨_,rfl,?_⟩) (λμ2 F3 l1 l5=>⟨_,rfl,cm μ2 F3 (by rw[hm];simp only[cond_true,j1,Option.bind_some];exact l1) (i2.trans (j5.trans l5))⟩)
  refine aO μ2 F3 K2 (e++e1++e2) (by rw[hm];simp only[cond_true,j1,Option.bind_some];exact l1) (by rw[l2];simp) (by simp;omega) ?_ (i2.trans (j5.trans l5))
  simpa using l4
 refine bZ.of λJ hJ=>ab.mk (λhg=>?_) (λhg=>?_)
 ·refine Vm h (by omega) c.id λμ1 F1 j1 j2=>⟨rfl,hJ _ _ (go μ1 _ F1 (by rw[hg];rfl) (xW K c.id) j1 j2)⟩
 ·exact hJ _ _ (go μ [] F (by rw[hg];simp) (by simp) (by simpa using h) (Mv.refl _ _))
theorem kI.beside{μ μ' pf:Mem}{k:Nat}{K row:List ByteArray}{F F1 F2 F2':List Nat}(h:kI μ' k K row F1)(hd:∀x∈F2,x∉F1)(hm:Mv μ μ' F (F1++F2))(uY:Mv μ' pf F2 F2'):kI pf k K row F1/\Mv μ pf F F1:=by
 refine⟨h.same λx hx=>uY.de x (h.at_ x hx) λLD=>hd x LD hx,?_⟩
 refine(hm.trans (uY.wide (G:=F1++F2) λx hx=>by simp[hx])).sub λx hx=>by simp[hx]
theorem Yz:∀(n:Nat) {μ:Mem} {k:Nat} {K row:List ByteArray} {F:List Nat} (h:kI μ k K row F) (fl:Fl) (l:List ae) (at_:Nat),aj l<=n->RD l->K.length<=9*at_->at_+aj l<=1000->∀{R:Kq},
  (∀μ' F' K' e,fL l at_ K=.ok K'->K'=K++e->K'.length<=9*(at_+aj l)->kI μ' k K' (row++e) F'->Mv μ μ' F F'->R (.aD [pI ((at_+aj l:Nat):Int),pB true]) μ')->(∀μ' F' (e:Nat),fL l at_ K=.error e->Mv μ μ' F F'->R (.aD [pI (e:Int),pB false]) μ')->
  aa prog 130 [pP k 0,.list 7 fl (l.map ae.pv),pI (at_:Nat)] μ R:=by
 intro n
 induction n with
 |zero=>
  intro μ k K row F h fl l at_ hn _ _ _ R aO _
  have:l=[]:=by
   cases l with
   |nil=>rfl
   |cons c l=>simp[aj,bM]at hn
  subst this
  refine mC.c ?_
  exact ak.dm (n:=0) (by omega) (λi x u=>x=((at_:Nat):Int)/\u=μ) ⟨rfl,rfl⟩ (λi x u next hi=>by omega) (λx u next hx=>by
   obtain⟨rfl,rfl⟩:=hx
   exact ab.f (by simp) (aO u F K [] rfl (by simp) (by simp[aj];omega) (by simpa using h) (Mv.refl _ _)))
 |succ n ih=>
  intro μ k K row F h fl l at_ hn abk hK gD R aO abC
  refine mC.c ?_
  have sM:=ch l
  refine ak.dm (n:=l.length) (by omega) (λi x u=>x=((at_+aj (l.take i):Nat):Int)/\∃Ki e Fi,fL (l.take i) at_ K=.ok Ki/\Ki=K++e/\Ki.length<=9*(at_+aj (l.take i))/\kI u k Ki (row++e) Fi/\Mv μ u F Fi) ⟨by simp[aj],K,[],F,by simp[fL],by simp,by simp[aj];omega,by simpa using h,Mv.refl _ _⟩ ?_ ?_
  ·rintro i _ u next hi ⟨rfl,Ki,e,Fi,i1,rfl,i2,i3,i4⟩ ar
   have hm:=eM (List.getElem_mem hi)
   have hs:=lH l (i+1)
   have gV:=fY hi
   rw[gV]at hs
   have fO:=Ot.1 abk l[i] (List.getElem_mem hi)
   obtain⟨OM,_,_,_,_,TP⟩:=(CV _).1 fO
   have hT:=vR hi i1
   have hC:=Dl l[i] (at_+aj (l.take i)) (K++e)
   have eT:ay l[i].pv 0 7=some [pI l[i].kind,pB l[i].goal,pS l[i].id,.list 6 .sh (l[i].attr.map Test.pv),.list 6 .sh (l[i].value.map Test.pv),pB l[i].acc,.list 7 .sh (l[i].conds.map ae.pv)]:=by rw[ae.cP];rfl
   refine ab.t (by simpa using hi) ⟨by omega,_,aw hi,_,_,_,_,_,_,_,_,_,_,eT,?_⟩
   dsimp only
   have Uo:IntKind.wrap .i64 (((at_+aj (l.take i):Nat):Int)+1)=((at_+aj (l.take i)+1:Nat):Int):=by rw[az (by omega) (by omega)];omega
   refine bZ.of λJ hJ=>ab.mk (λhp=>?_) (λhp=>?_)
   ·have jw:(l[i].kind == 1)=false:=by simpa using hp
    refine acn i3 λμ1 k2 F1 F2 j1 j2 j3 j4=>⟨_,rfl,hJ _ _ (ab.mk (λh3=>?_) (λh3=>?_))⟩
    ·rw[Uo]
     rw[h3]at hC
     refine ih j2 .sh l[i].conds (at_+aj (l.take i)+1) (by omega) TP (by omega) (by omega) (λμ2 F3 K2 e2 l1 l2 l3 l4 l5=>⟨_,_,rfl,ab.f rfl ?_⟩) (λμ2 F3 e2 l1 l5=>⟨_,_,rfl,ab.t rfl (abC μ2 _ e2 (nM hi i1 (by rw[hC,l1];rfl)) (i4.trans (j1.beside j3 j4 l5).2))⟩)
     obtain⟨b1,b2⟩:=j1.beside j3 j4 l5
     refine ar _ _ ⟨?_,K++e,e,F1,?_,rfl,?_,b1,i4.trans b2⟩
     ·rw[gV];congr 1;omega
     ·rw[hT,hC,l1];rfl
     ·rw[gV];omega
    ·rw[h3,jw]at hC
     have mR:l[i].conds.length=0:=by
      rcases OM with h|h
      ·rw[h]at h3;simp at h3
      ·exact h.2
     have abI:l[i].conds=[]:=List.eq_nil_of_length_eq_zero mR
     have aiy:aj l[i].conds=0:=by rw[abI];rfl
     have ng:PV.agg [pI l[i].kind,pB l[i].goal,pS l[i].id,.list 6 .sh (l[i].attr.map Test.pv),.list 6 .sh (l[i].value.map Test.pv),pB l[i].acc,.list 7 .sh (l[i].conds.map ae.pv)]=.agg l[i].pv:=by rw[ae.cP]
     rw[ng]
     refine af1 j2 l[i] fO (by omega) (λμ2 F3 K2 e2 l1 l2 l3 l4 l5=>⟨_,rfl,ab.f rfl ?_⟩) (λμ2 F3 l1 l5=>⟨_,rfl,ab.t rfl (abC μ2 _ _ (nM hi i1 (by rw[hC,l1];rfl)) (i4.trans (j1.beside j3 j4 l5).2))⟩)
     obtain⟨b1,b2⟩:=j1.beside j3 j4 l5
     rw[Uo]
     refine ar _ _ ⟨?_,K++e,e,F1,?_,rfl,?_,b1,i4.trans b2⟩
     ·rw[gV];congr 1;omega
     ·rw[hT,hC,l1];rfl
     ·rw[gV];omega
   ·have jw:l[i].kind=1:=by simpa using hp
    have h3:(l[i].kind == 3)=false:=by rw[jw];rfl
    refine hJ _ _ (ab.f h3 ?_)
    rw[h3,show(l[i].kind == 1)=true by rw[jw];rfl]at hC
    have mR:l[i].conds.length=0:=by
     rcases OM with h|h
     ·rw[jw]at h;cases h
     ·exact h.2
    have abI:l[i].conds=[]:=List.eq_nil_of_length_eq_zero mR
    have aiy:aj l[i].conds=0:=by rw[abI];rfl
    have ng:PV.agg [pI l[i].kind,pB l[i].goal,pS l[i].id,.list 6 .sh (l[i].attr.map Test.pv),.list 6 .sh (l[i].value.map Test.pv),pB l[i].acc,.list 7 .sh (l[i].conds.map ae.pv)]=.agg l[i].pv:=by rw[ae.cP]
    rw[ng]
    refine af1 i3 l[i] fO (by omega) (λμ2 F3 K2 e2 l1 l2 l3 l4 l5=>⟨_,rfl,ab.f rfl ?_⟩) (λμ2 F3 l1 l5=>⟨_,rfl,ab.t rfl (abC μ2 _ _ (nM hi i1 (by rw[hC,l1];rfl)) (i4.trans l5))⟩)
    rw[Uo]
    refine ar _ _ ⟨?_,K2,e++e2,F3,?_,by rw[l2,List.append_assoc],?_,by rw[<- List.append_assoc];exact l4,i4.trans l5⟩
    ·rw[gV];congr 1;omega
    ·rw[hT,hC,l1];rfl
    ·rw[gV,l2,List.length_append];omega
  ·rintro _ u next ⟨rfl,Ki,e,Fi,i1,rfl,i2,i3,i4⟩
   rw[List.take_length]at i1 i2
   refine ab.f (by simp) ?_
   dsimp only
   rw[List.take_length]
   exact aO u Fi _ e i1 rfl i2 i3 i4
theorem Nm{μ:Mem}{k:Nat}{K row:List ByteArray}{F:List Nat}(h:kI μ k K row F)(hl:K.length<=100000)(a:Atom){R:Kq}(hk:R (pB (qg K a)) μ):aa prog 131 [pP k 0,.agg a.pv] μ R:=by
 refine ur.c ?_
 refine ab.mk (λhv=>aco h hl a.var ⟨_,rfl,?_⟩) (λhv=>?_)
 ·have:qg K a= !hasB K a.var:=by unfold qg;rw[hv];rfl
  rw[this]at hk;exact hk
 ·have:qg K a=false:=by unfold qg;rw[hv];rfl
  rw[this]at hk;exact hk
end K6
open K6
@[reducible] def Hq(fc fa:Fl)(p:Prod):PV:=.agg [pS p.name,.list 7 fc (p.conds.map ae.pv),.list 19 fa (p.bp.map dh.pv)]
@[reducible] def OY(x:Int×Int×List ByteArray):PV:=.aD [pI x.1,pI x.2.1,.list 1 .sh (da x.2.2)]
theorem Rl{μ:Mem}(fc fa:Fl)(p:Prod)(hl:bD p.conds)(hs:aj p.conds<=1000000)(ha:p.bp.length<=1000000){R:Kq}(hR:∀μ' q Fr,yF μ' q (cg p).2.2 Fr->Mv μ μ' [] Fr->R (.aD [pI (cg p).1,pI (cg p).2.1,q]) μ'):aa prog 73 [Hq fc fa p] μ R:=by
 refine BB.c ?_
 have Xq:(cg p).2.2=[]->∀μ' a e,Mv μ μ' [] []->(cg p).1=a->(cg p).2.1=e->R (.aD [pI a,pI e,.list 1 .nil []]) μ':=λh0 μ' a e hm h1 h2=>by
  have:=hR μ' (.list 1 .nil []) [] (.inl ⟨rfl,h0,rfl⟩) hm
  rw[h1,h2]at this
  exact this
 refine(acf .sh .sh p hl hs ha).call ⟨_,_,rfl,ab.mk (λh1=>?_) (λh1=>?_)⟩
 ·have hE:cg p=((dF p).1,(dF p).2,[]):=by unfold cg;rw[h1];rfl
  exact Xq (by rw[hE]) _ _ _ (Mv.refl _ _) (by rw[hE]) (by rw[hE])
 have h0:(dF p).2=0:=by simpa using h1
 obtain⟨s1,s2,s3,s4,aO⟩:=zh h0
 cases hc:p.conds with
 |nil=>rw[hc]at s1;simp[aj]at s1
 |cons c cs=>
 refine⟨by omega,c.pv,rfl,_,by rw[ae.cP];rfl,ab.mk (λh2=>?_) (λh2=>?_)⟩
 ·have hE:cg p=(0,9,[]):=by unfold cg;rw[h1,hc];simp only[cond_false,List.head?_cons,Option.map_some,Option.getD_some,h2,cond_true]
  exact Xq (by rw[hE]) _ _ _ (Mv.refl _ _) (by rw[hE]) (by rw[hE])
 have hE:cg p=match fL p.conds 0 []with
   | .error n=>((n:Int),6,[])
   | .ok K=>match jy K 0 p.bp with
     |some i=>(((aj p.conds+i:Nat):Int),6,[])
     |none=>(-1,0,K):=by
  unfold cg
  rw[h1]
  simp only[cond_false]
  rw[show(p.conds.head?.map ae.kind).getD 0=c.kind by rw[hc];rfl,h2]
  rfl
 rw[<- hc]
 refine iy .nil λμ1 b hb i1 i2=>⟨_,rfl,λk hk=>?_⟩
 have hkb:k≠b:=by rintro rfl;exact i1.at_.2 k (by simp) hk
 have hkn:kI (μ1.set k (some (.cells tF [pP b 0,.list 1 .nil []]))) k [] [] (k::([b]++[])):=by
  refine⟨⟨b,[],_,[b],[],Mem.aq _ _ _,i1.same λx hx=>Mem.aC _ _ ?_,List.Pairwise.nil,λy=>Iff.rfl,Nat.le_refl _,.inl ⟨rfl,rfl,rfl⟩,by simpa using hkb,λx hx=>by simp at hx,rfl⟩,Nat.le_refl _⟩
  rintro rfl
  simp at hx;exact hkb hx
 have ZE:Mv μ (μ1.set k (some (.cells tF [pP b 0,.list 1 .nil []]))) [] (k::([b]++[])):=i2.trans (Mv.set (.inr hk))
 refine aa.post (Yz _ hkn fc p.conds 0 (Nat.le_refl _) aO (by simp) (by omega) (λμ2 F2 K e j1 j2 j3 j4 j5=>?_) (λμ2 F2 e j1 j5=>?_))
 ·rw[List.nil_append]at j2 j4
  subst j2
  obtain⟨μ3,hG,ZD,b',L,q,Fs,Fr,m1,_,_,_,_,m6,_,_,hF⟩:=j4.raw
  refine⟨μ3,hG,_,_,rfl,ab.f rfl ?_⟩
  rw[Nat.zero_add]at j3
  have j4':kI μ3 k K K F2:=by
   obtain⟨μ4,_,_,_⟩:=j4.raw
   exact⟨⟨b',L,q,Fs,Fr,m1,by assumption,by assumption,by assumption,by assumption,.inr m6,by assumption,by assumption,hF⟩,Nat.le_refl _⟩
  have RO:Mv μ μ3 [] F2:=ZE.trans (j5.trans ZD)
  have aiR:Mv μ μ3 [] []:=RO.sub (by simp)
  refine ak.each (n:=p.bp.length) (by omega) (λi u=>u=μ3/\jy K 0 (p.bp.take i)=none) ⟨rfl,rfl⟩ ?_ ?_
  ·rintro i u next hi ⟨rfl,hf⟩ ar
   have hT:=Be hi hf
   refine ab.t (by simpa using hi) ⟨by omega,_,aw hi,_,_,_,_,_,_,_,_,_,_,_,_,_,_,_,_,_,_,_,rfl,?_⟩
   have QC:j_ K p.bp[i]=true->R (.aD [pI (IntKind.wrap .i64 (((0+aj p.conds:Nat):Int)+(i:Int))),pI 6,.list 1 .nil []]) u:=λhl=>by
    have Wp:cg p=(((aj p.conds+i:Nat):Int),6,[]):=by rw[hE,j1];simp only[DK hi hf hl,Nat.zero_add]
    refine Xq (by rw[Wp]) _ _ _ aiR ?_ (by rw[Wp])
    rw[Wp,az (by omega) (by omega)];simp only;omega
   have HB:j_ K p.bp[i]=false->next (IntKind.wrap .i64 ((i:Int)+1)) u:=λhl=>ar _ ⟨rfl,by rw[hT,hl];rfl⟩
   refine Nm j4' (by omega) p.bp[i].attr ⟨_,rfl,ab.mk (λa1=>?_) (λa1=>?_)⟩
   ·exact QC (by unfold j_;rw[a1];rfl)
   refine ab.mk (λa2=>?_) (λa2=>HB (by unfold j_;rw[a1,a2];rfl))
   refine Nm j4' (by omega) p.bp[i].value.a ⟨_,rfl,ab.mk (λa3=>?_) (λa3=>?_)⟩
   ·exact QC (by unfold j_;rw[a1,a2,a3];rfl)
   refine Nm j4' (by omega) p.bp[i].value.b ⟨_,rfl,ab.mk (λa4=>?_) (λa4=>?_)⟩
   ·exact QC (by unfold j_;rw[a1,a2,a3,a4];rfl)
   ·exact HB (by unfold j_;rw[a1,a2,a3,a4];rfl)
  ·rintro u next ⟨rfl,hf⟩
   rw[List.take_length]at hf
   have Wp:cg p=(-1,0,K):=by rw[hE,j1];simp only[hf]
   obtain⟨a,c',rfl,_⟩:=m6.app (dA K)
   refine ab.f (by simp) ⟨_,_,_,aE m1 (by simp),?_⟩
   have:=hR u _ Fr (by rw[Wp];exact .inr m6) (RO.sub λx hx=>by rw[hF];simp[hx])
   rw[Wp]at this
   exact this
 ·have Wp:cg p=((e:Int),6,[]):=by rw[hE,j1]
  exact⟨μ2,GU.refl _,_,_,rfl,ab.t rfl (Xq (by rw[Wp]) _ _ _ ((ZE.trans j5).sub (by simp)) (by rw[Wp]) (by rw[Wp]))⟩
theorem Vv(fc fa:Fl)(p:Prod)(hl:bD p.conds)(hs:aj p.conds<=1000000)(ha:p.bp.length<=1000000):Pure prog 73 [Hq fc fa p] (OY (cg p)):=by
 refine aa.ad5 (Rl fc fa p hl hs ha λμ' q Fr h hm=>⟨OY (cg p),.aD rfl (λd hd=>?_) (λi c d hc hd=>?_),rfl⟩)
 ·simp only[List.mem_cons,List.not_mem_nil,or_false]at hd
  rcases hd with rfl|rfl|rfl<;>rfl
 ·match i with
  |0=>simp at hc hd;subst hc hd;exact .same _
  |1=>simp at hc hd;subst hc hd;exact .same _
  |2=>simp at hc hd;subst hc hd;exact h.view
  |n+3=>simp at hc
theorem Ir(fc fa:Fl)(p:Prod)(hl:bD p.conds)(hs:aj p.conds<=1000000)(ha:p.bp.length<=1000000):Pure prog 21 [Hq fc fa p] (.aD [pI (cg p).1,pI (cg p).2.1]):=by
 refine ao.of (Fu.c ?_)
 exact(Vv .sh .sh p hl hs ha).call ⟨_,_,_,_,rfl,rfl⟩
def lb(p:Prod):Prop:=bD p.conds/\aj p.conds<=40/\p.bp.length<=40/\p.name.size<=100
theorem wy(fc fa:Fl)(p:Prod):ao prog 15 [.agg [pS p.name,.list 7 fc (p.conds.map ae.pv),.list 19 fa (p.bp.map dh.pv)]] λr=>∃q:Bool,r=pB q/\(q=false->lb p):=by
 refine ao.of (wY.c ?_)
 have yes:∃q:Bool,wk (pB true)=pB q/\(q=false->lb p):=⟨true,rfl,λh=>by cases h⟩
 refine(No _ fc p.conds 40 0 (Nat.le_refl _) (by omega) (by omega)).call ?_
 rintro _ ⟨r,rfl,OH,BV⟩
 refine⟨_,rfl,ab.mk (λ_=>yes) (λa1=>ab.mk (λ_=>yes) (λa2=>ab.mk (λ_=>yes) (λa3=>?_)))⟩
 have a1:=of_decide_eq_false a1
 have a2:=of_decide_eq_false a2
 have a3:=of_decide_eq_false a3
 simp only[List.length_map]at a2
 have hs:=BV (by omega)
 refine(te _ fc p.conds (Nat.le_refl _) (by omega)).call ?_
 rintro _ ⟨q,rfl,hq⟩
 exact⟨_,rfl,q,rfl,λh=>⟨hq h,by omega,by omega,by omega⟩⟩
theorem ak.OX{α γ:Type}{body:(α->γ->Prop)->α->γ->Prop}{s0:α}{u:γ}(n:Nat)(I:Nat->α->γ->Prop)(h0:I 0 s0 u)
  (gG:∀(k:Nat) (s:α) (u:γ) (next:α->γ->Prop),k<n->I k s u->(∀s' u',I (k+1) s' u'->next s' u')->body next s u) (gM:∀(s:α) (u:γ) (next:α->γ->Prop),I n s u->body next s u):ak body s0 u:=by
 refine⟨λm s w=>∃k,k<=n/\m=n-k/\I k s w,⟨n,0,by omega,rfl,h0⟩,?_⟩
 rintro m s w ⟨k,hk,rfl,hI⟩
 by_cases h:k<n
 ·exact gG k s w _ h hI λs' u' h'=>⟨n-(k+1),by omega,k+1,by omega,rfl,h'⟩
 ·have:k=n:=by omega
  subst this
  exact gM s w _ hI
theorem QH{K:List ByteArray}{v:ByteArray}{i:Nat}(hi:i<K.length)(h:hasB (K.take i) v=false)(hn:aJ K[i] v=false):hasB (K.take (i+1)) v=false:=by
 unfold hasB at*
 rw[List.take_add_one,List.any_append,h,List.getElem?_eq_getElem hi]
 simp[hn]
theorem Vi(fl:Fl)(K:List ByteArray)(v:ByteArray)(hl:K.length<=1000000):Pure prog 140 [.list 1 fl (da K),pS v] (pB (hasB K v)):=by
 refine ao.of (yS.c ?_)
 refine ak.each (n:=K.length) (by omega) (λi u=>hasB (K.take i) v=false) rfl ?_ ?_
 ·intro i u next hi hI ar
  refine ab.t (by simpa using hi) ⟨by omega,_,JA hi,_,rfl,ab.mk (λh=>?_) (λh=>ar _ (QH hi hI h))⟩
  have:hasB K v=true:=sP.2 (by rw[<- bI.1 h];exact List.getElem_mem hi)
  rw[this];rfl
 ·intro u next hI
  rw[List.take_length]at hI
  rw[hI]
  exact ab.f (by simp) rfl
@[reducible] def Th:Option (List ByteArray)->PV
 |none=>.aD [.list 1 .sh [],pB false]
 |some K=>.aD [.list 1 .sh (da K),pB true]
theorem xK(K e:List ByteArray):da (K++e)=da K++da e:=by simp[da]
theorem JU{K:List ByteArray}{t:Test}(h:Xk t):ug K t=(bif aJ t.var ⟨#[]⟩then some K else bif hasB K t.var then some K else bif t.rel != 1 then none else some (K++[t.var])):=by
 unfold ug rP
 cases hv:aJ t.var ⟨#[]⟩with
 |true=>simp
 |false=>
  have h8:(t.rel == 8)=false:=by
   cases h8:t.rel == 8 with
   |false=>rfl
   |true=>rw[h (by simpa using h8)]at hv;cases hv
  rw[h8,show(t.rel != 1)= !(t.rel == 1)from rfl]
  cases hasB K t.var<;>cases t.rel == 1<;>simp
theorem HC{K:List ByteArray}{a b:List Test}:jO K (a++b)=(jO K a).bind λK1=>jO K1 b:=sF K a b
theorem NW{fl f1 f2:Fl}{n sz:Nat}{μ μ':Mem}(h:oa fl n sz μ)(hd:∀x∈LX fl,¬f1.at x)(hk:∀b o,μ b=some o->¬f1.at b->μ' b=some o/\¬f2.at b):oa fl n sz μ'/\∀x∈LX fl,¬f2.at x:=by
 cases fl with
 |pU b c=>
  have:=hk b _ h (hd b (by simp[LX]))
  exact⟨this.1,λx hx=>by simp[LX]at hx;subst hx;exact this.2⟩
 |sh=>exact⟨h,λx hx=>by simp[LX]at hx⟩
 |nr=>exact⟨h,λx hx=>by simp[LX]at hx⟩
 |nil=>exact⟨h,λx hx=>by simp[LX]at hx⟩
theorem afX(fl:Fl)(c:ae)(K:List ByteArray)(hc:LB c)(hl:K.length<=10000):Pure prog 139 [.agg c.pv,.list 1 fl (da K)] (Th (rQ K c)):=by
 obtain⟨_,ha,hv,IX,MM,_⟩:=(CV c).1 hc
 rw[ae.cP]
 refine ao.of (yR.c ?_)
 refine aV.RW (by trivial) (by simp;omega) (by simp;omega) λf1 μ1 t1=>?_
 simp only[List.nil_append,List.length_nil,Nat.zero_add,dM]at t1 |-
 have go:∀(K0:List ByteArray) (f:Fl) (u:Mem),K0.length<=10001->oa f K0.length 1 u->rQ K c=(jO K0 c.attr).bind (λK1=>jO K1 c.value)->
   aV true 6 80 .nil [] (c.attr.map Test.pv) u λf26 EB=>aV false 6 80 f26 (c.attr.map Test.pv) (c.value.map Test.pv) EB λf29 NU=>
   ak (α:=(Fl×Lq)×Int) (λnext BR Zc=>
   ab (decide ((BR.2:Int)<((List.length (c.attr.map Test.pv++c.value.map Test.pv):Nat):Int)))
   ((0:Int)<=BR.2/\∃(r38:List PV),(c.attr.map Test.pv++c.value.map Test.pv)[Int.toNat BR.2]?=some r38/\
    ∃(x40:ByteArray),ay r38 1 1=some [(pS x40)]/\
    ab (aJ x40 ⟨#[]⟩)
    (next ((BR.1.1,BR.1.2),(IntKind.wrap .i64 (BR.2+(1)))) Zc)
    ((0:Int)<=BR.2/\∃(r46:List PV),(c.attr.map Test.pv++c.value.map Test.pv)[Int.toNat BR.2]?=some r46/\
     ∃(x48:ByteArray),ay r46 1 1=some [(pS x48)]/\
     aa prog 140 [(.list 1 BR.1.1 BR.1.2),(pS x48)] Zc λJe Zb=>
     ∃(x49:Bool),Je=(pB x49)/\
     ab x49
     (next ((BR.1.1,BR.1.2),(IntKind.wrap .i64 (BR.2+(1)))) Zb)
     ((0:Int)<=BR.2/\∃(r53:List PV),(c.attr.map Test.pv++c.value.map Test.pv)[Int.toNat BR.2]?=some r53/\
      ∃(x55:Int),ay r53 0 1=some [(pI x55)]/\
      ab ((x55:Int) != (1))
      (wk (.aD [(.list 1 .nil []),(pB false)])=Th (rQ K c))
      ((0:Int)<=BR.2/\∃(r60:List PV),(c.attr.map Test.pv++c.value.map Test.pv)[Int.toNat BR.2]?=some r60/\
       ∃(x62:ByteArray),ay r60 1 1=some [(pS x62)]/\
       aV false 1 16 BR.1.1 BR.1.2 [[(pS x62)]] Zb λf64 WB=>
       next ((f64,(BR.1.2++[[(pS x62)]])),(IntKind.wrap .i64 (BR.2+(1)))) WB))))
   (wk (.aD [(.list 1 BR.1.1 BR.1.2),(pB true)])=Th (rQ K c))) ((f,da K0),(0)) NU:=by
  intro K0 f u hK0 tf hm
  rw[<- HC]at hm
  refine aV.go (by trivial) (by simp;omega) (by simp;omega) (λf26 u4 t26 k26=>?_)
  obtain⟨tf4,d4⟩:=NW (f1:=.nil) tf (λx _ h=>h) k26
  refine aV.go (by simpa using t26) (by simp;omega) (by simp;omega) λf29 u5 t29 k29=>?_
  obtain⟨tf5,d5⟩:=NW tf4 d4 k29
  rw[<- List.map_append]
  have hlen:(c.attr++c.value).length<=8:=by rw[List.length_append];omega
  have aO:∀t∈c.attr++c.value,Xk t:=λt ht=>(List.mem_append.1 ht).elim (IX t) (MM t)
  refine ak.dm (n:=(c.attr++c.value).length) (by omega) (λi x u=>∃Ki,x.2=da Ki/\oa x.1 Ki.length 1 u/\jO K0 ((c.attr++c.value).take i)=some Ki/\Ki.length<=K0.length+i) ⟨K0,rfl,tf5,by simp[jO],by omega⟩ ?_ ?_
  ·rintro i ⟨f,_⟩ u next hi ⟨Ki,rfl,i1,i2,i3⟩ ar
   have hT:=zv hi i2
   rw[JU (aO _ (List.getElem_mem hi))]at hT
   refine ab.t (decide_eq_true (by rw[List.length_map];omega)) ⟨by omega,_,aw hi,_,rfl,ab.mk (λh1=>ar _ _ ⟨Ki,rfl,i1,by rw[hT,h1];rfl,by omega⟩) (λh1=>⟨by omega,_,aw hi,_,rfl,?_⟩)⟩
   refine(Vi f Ki _ (by omega)).call ⟨_,rfl,ab.mk (λh2=>ar _ _ ⟨Ki,rfl,i1,by rw[hT,h1,h2];rfl,by omega⟩) (λh2=>⟨by omega,_,aw hi,_,rfl,ab.mk (λh3=>?_) (λh3=>⟨by omega,_,aw hi,_,rfl,?_⟩)⟩)⟩
   ·rw[h1,h2,h3]at hT
    have hn:jO K0 (c.attr++c.value)=none:=Gg hi i2 (by rw[JU (aO _ (List.getElem_mem hi)),h1,h2,h3];rfl)
    rw[hm,hn];rfl
   ·rw[h1,h2,h3]at hT
    refine aV.RW (by rw[dM];exact i1) (by simp;omega) (by simp;omega) λf' u' t'=>ar _ _ ⟨Ki++[(c.attr++c.value)[i].var],?_,?_,hT,by rw[List.length_append,List.length_singleton];omega⟩
    ·rw[xK];rfl
    ·simpa using t'
  ·rintro⟨f,_⟩ u next ⟨Ki,rfl,i1,i2,i3⟩
   rw[List.take_length]at i2
   refine ab.f (by rw[List.length_map];simp) ?_
   rw[hm,i2];rfl
 refine bZ.of λJ hJ=>(Vi f1 K c.id (by omega)).call ⟨_,rfl,ab.mk (λh1=>ab.mk (λh2=>?_) (λh2=>?_)) (λh1=>?_)⟩
 ·have h1:=nb h1;have h2:=nb h2
  have:rQ K c=none:=by simp[rQ,h1,h2]
  rw[this];rfl
 ·have h1:=nb h1;have h2:=nt h2
  refine aV.RW (by rw[dM];exact t1) (by simp;omega) (by simp;omega) λf2 μ2 t2=>hJ _ _ ?_
  have:=go (K++[c.id]) f2 μ2 (by simp;omega) (by simpa using t2) (by
   have hh:hasB (K++[c.id]) c.id=true:=sP.2 (by simp)
   simp[rQ,h2,rP,h1,hh])
  rw[xK]at this
  exact this
 ·have h1:=nt h1
  refine hJ _ _ (go K f1 _ (by omega) t1 ?_)
  cases hg:c.goal<;>simp[rQ,hg,rP,h1]
@[reducible] def aa4:Except Nat (List ByteArray)->PV
 | .error e=>.aD [.list 1 .sh [],pI (e:Nat),pB false]
 | .ok K=>.aD [.list 1 .sh (da K),pI (-1),pB true]
theorem JV{K K':List ByteArray}{c:ae}(hc:LB c)(h:rQ K c=some K'):K'.length<=K.length+9:=by
 obtain⟨_,ha,hv,_,_,_⟩:=(CV c).1 hc
 have hT:∀{K K':List ByteArray} {t:Test},ug K t=some K'->K'.length<=K.length+1:=by
  intro K K' t h
  unfold ug at h
  have:=xW K t.var
  cases h1:(t.rel == 8)||aJ t.var ⟨#[]⟩<;>rw[h1]at h
  ·simp only[cond_false]at h
   cases h2:t.rel == 1<;>rw[h2]at h
   ·simp only[cond_false]at h
    cases h3:hasB K t.var<;>rw[h3]at h
    ·cases h
    ·cases h;omega
   ·cases h;rw[List.length_append];omega
  ·cases h;omega
 have hL:∀(ts:List Test) {K K':List ByteArray},jO K ts=some K'->K'.length<=K.length+ts.length:=by
  intro ts
  induction ts with
  |nil=>intro K K' h;cases h;simp
  |cons t ts ih=>
   intro K K' h
   simp only[jO]at h
   cases h1:ug K t with
   |none=>rw[h1]at h;cases h
   |some K1=>
    rw[h1]at h
    have:=ih h
    have:=hT h1
    rw[List.length_cons];omega
 unfold rQ at h
 have hg:(bif c.goal then K++rP K c.id else K).length<=K.length+1:=by
  have:=xW K c.id
  cases c.goal
  ·simp
  ·rw[cond_true,List.length_append];omega
 generalize hK0:(bif c.goal then K++rP K c.id else K)=K0 at h hg
 simp only at h
 cases hh:hasB K0 c.id<;>rw[hh]at h
 ·cases h
 ·simp only[cond_true]at h
  cases h1:jO K0 c.attr with
  |none=>rw[h1]at h;cases h
  |some K1=>
   rw[h1]at h
   have:=hL _ h1
   have:=hL _ (show jO K1 c.value=some K' from h)
   omega
theorem Gl:∀{l:List ae} {n:Nat} {K K':List ByteArray},RD l->fL l n K=.ok K'->K'.length<=K.length+9*aj l
 |[],n,K,K',_,h=>by cases h;simp
 |c::l,n,K,K',ho,h=>by
  simp only[fL]at h
  cases hc:yf c n K with
  |error e=>rw[hc]at h;cases h
  |ok K1=>
   rw[hc]at h
   have h1:=Gl ho.2 h
   have h2:K1.length<=K.length+9:=by
    rw[Dl]at hc
    cases h3:c.kind == 3<;>rw[h3]at hc
    ·simp only[cond_false]at hc
     cases hm:rQ K c with
     |none=>rw[hm]at hc;cases hc
     |some K2=>
      rw[hm]at hc
      have:=JV ho.1 hm
      cases h4:c.kind == 1<;>rw[h4]at hc<;>cases hc
      ·simp
      ·exact this
    ·simp only[cond_true]at hc
     cases hk:fL c.conds (n+1) K with
     |error e=>rw[hk]at hc;cases hc
     |ok K2=>rw[hk]at hc;cases hc;omega
   simp only[aj,bM]
   omega
theorem acm:∀(n:Nat) (fl fk:Fl) (l:List ae) (at_:Nat) (K:List ByteArray),aj l<=n->RD l->K.length<=9*at_->at_+aj l<=1000->Pure prog 79 [.list 7 fl (l.map ae.pv),pI (at_:Nat),.list 1 fk (da K)] (aa4 (fL l at_ K)):=by
 intro n
 induction n with
 |zero=>
  intro fl fk l at_ K h _ _ _
  have:l=[]:=by
   cases l with
   |nil=>rfl
   |cons c l=>simp[aj,bM]at h
  subst this
  refine ao.of (mD.c ?_)
  exact ak.OX 0 (λk s u=>s=((at_:Int),(fk,da K),(0:Int))) rfl (λk s u next hk=>by omega) (λs u next hs=>by subst hs;exact ab.f (by simp) rfl)
 |succ n ih=>
  intro fl fk l at_ K h abk hK gD
  have sM:=ch l
  refine ao.of (mD.c ?_)
  refine ak.OX l.length (λi s u=>∃f Ki,s=(((at_+aj (l.take i):Nat):Int),(f,da Ki),(i:Int))/\fL (l.take i) at_ K=.ok Ki/\Ki.length<=9*(at_+aj (l.take i))) ⟨fk,K,by simp[aj],by simp[fL],by simp[aj];omega⟩ ?_ ?_
  ·rintro i _ u next hi ⟨f,Ki,rfl,i1,i2⟩ ar
   have hm:=eM (List.getElem_mem hi)
   have hs:=lH l (i+1)
   have gV:=fY hi
   rw[gV]at hs
   have fO:=Ot.1 abk l[i] (List.getElem_mem hi)
   obtain⟨OM,_,_,_,_,TP⟩:=(CV _).1 fO
   have hT:=vR hi i1
   have hC:=Dl l[i] (at_+aj (l.take i)) Ki
   have EE:ay l[i].pv 0 1=some [pI l[i].kind]:=by rw[ae.cP];rfl
   have hk6:ay l[i].pv 6 1=some [.list 7 .sh (l[i].conds.map ae.pv)]:=by rw[ae.cP];rfl
   have eT:ay l[i].pv 0 7=some [pI l[i].kind,pB l[i].goal,pS l[i].id,.list 6 .sh (l[i].attr.map Test.pv),.list 6 .sh (l[i].value.map Test.pv),pB l[i].acc,.list 7 .sh (l[i].conds.map ae.pv)]:=by rw[ae.cP];rfl
   refine ab.t (by simpa using hi) ?_
   have Uo:IntKind.wrap .i64 (((at_+aj (l.take i):Nat):Int)+1)=((at_+aj (l.take i)+1:Nat):Int):=by rw[az (by omega) (by omega)];omega
   have go:∀(f:Fl) (K':List ByteArray) (u':Mem),yf l[i] (at_+aj (l.take i)) Ki=.ok K'->K'.length<=9*(at_+aj (l.take (i+1)))->
     ((0:Int)<=(i:Int)/\∃(r65:List PV),(l.map ae.pv)[Int.toNat (i:Int)]?=some r65/\∃(adu:Fl) (x67:Lq),ay r65 6 1=some [(.list 7 adu x67)]/\
      aa prog 80 [(.list 7 adu x67)] u' λSc EB=>∃(x68:Int),Sc=(pI x68)/\next ((IntKind.wrap .i64 (((at_+aj (l.take i):Nat):Int)+(IntKind.wrap .i64 ((1)+x68)))),(f,da K'),(IntKind.wrap .i64 ((i:Int)+(1)))) EB):=by
    intro f K' u' hk hlen
    refine⟨by omega,_,aw hi,_,_,hk6,(s_ _ .sh l[i].conds (Nat.le_refl _) (by omega)).call ⟨_,rfl,ar _ _ ⟨f,K',?_,by rw[hT,hk],hlen⟩⟩⟩
    rw[az (x:=(1:Int)+_) (by omega) (by omega),az (x:=((at_+aj (l.take i):Nat):Int)+_) (by omega) (by omega),az (x:=(i:Int)+1) (by omega) (by omega),gV]
    congr 1
    omega
   refine bZ.of λJ hJ=>⟨Int.natCast_nonneg i,_,aw hi,_,EE,ab.mk (λh3=>?_) (λh3=>?_)⟩
   ·rw[h3]at hC
    refine⟨Int.natCast_nonneg i,_,aw hi,_,_,hk6,?_⟩
    dsimp only
    rw[Uo]
    refine(ih .sh f l[i].conds (at_+aj (l.take i)+1) Ki (by omega) TP (by omega) (by omega)).call ?_
    cases hr:fL l[i].conds (at_+aj (l.take i)+1) Ki with
    |error e=>
     refine⟨_,_,_,_,rfl,ab.t rfl ?_⟩
     rw[nM hi i1 (e:=e) (by rw[hC,hr];rfl)];rfl
    |ok K'=>
     refine⟨_,_,_,_,rfl,ab.f rfl (hJ _ _ (go f Ki _ (by rw[hC,hr];rfl) ?_))⟩
     rw[gV];omega
   ·rw[h3]at hC
    have mR:l[i].conds.length=0:=by
     rcases OM with h|h
     ·rw[h]at h3;simp at h3
     ·exact h.2
    have ng:PV.agg [pI l[i].kind,pB l[i].goal,pS l[i].id,.list 6 .sh (l[i].attr.map Test.pv),.list 6 .sh (l[i].value.map Test.pv),pB l[i].acc,.list 7 .sh (l[i].conds.map ae.pv)]=.agg l[i].pv:=by rw[ae.cP]
    refine⟨Int.natCast_nonneg i,_,aw hi,_,_,_,_,_,_,_,_,_,_,eT,?_⟩
    rw[ng]
    refine(afX f l[i] Ki fO (by omega)).call ?_
    cases hr:rQ Ki l[i]with
    |none=>
     refine⟨_,_,_,rfl,ab.t rfl ?_⟩
     rw[nM hi i1 (e:=at_+aj (l.take i)) (by rw[hC,hr];rfl)];rfl
    |some K'=>
     have nR:=JV fO hr
     refine⟨_,_,_,rfl,ab.f rfl ⟨Int.natCast_nonneg i,_,aw hi,_,EE,ab.mk (λh1=>hJ _ _ (go _ K' _ ?_ ?_)) (λh1=>hJ _ _ (go f Ki _ ?_ ?_))⟩⟩
     ·rw[hC,hr,h1];rfl
     ·rw[gV];omega
     ·rw[hC,hr,h1];rfl
     ·rw[gV];omega
  ·rintro _ u next ⟨f,Ki,rfl,i1,i2⟩
   rw[List.take_length]at i1
   refine ab.f (by simp) ?_
   rw[i1];rfl
theorem Ve(fl:Fl)(a:Atom)(K:List ByteArray)(hl:K.length<=1000000):Pure prog 81 [.agg a.pv,.list 1 fl (da K)] (pB (!qg K a)):=by
 refine ao.of (wR.c ?_)
 refine ab.mk (λh=>?_) (λh=>(Vi fl K a.var hl).call ⟨_,rfl,?_⟩)
 ·have:qg K a=false:=by unfold qg;rw[h];rfl
  rw[this];rfl
 ·have:qg K a= !hasB K a.var:=by unfold qg;rw[h];rfl
  rw[this,Bool.not_not];rfl
theorem Yv(fc fa:Fl)(p:Prod)(hl:bD p.conds)(hs:aj p.conds<=1000000)(ha:p.bp.length<=1000000):Pure prog 26 [Hq fc fa p] (.aD [pI (cg p).1,pI (cg p).2.1]):=by
 refine ao.of (uF.c ?_)
 refine(Rd .sh .sh p hl hs ha).call ⟨_,_,rfl,ab.mk (λh1=>?_) (λh1=>?_)⟩
 ·unfold cg;rw[h1];rfl
 have h0:(dF p).2=0:=by simpa using h1
 obtain⟨s1,s2,s3,s4,aO⟩:=zh h0
 cases hc:p.conds with
 |nil=>rw[hc]at s1;simp[aj]at s1
 |cons c cs=>
 refine⟨by omega,c.pv,rfl,_,by rw[ae.cP];rfl,ab.mk (λh2=>?_) (λh2=>?_)⟩
 ·unfold cg;rw[h1,hc];simp only[cond_false,List.head?_cons,Option.map_some,Option.getD_some,h2,cond_true];rfl
 have hE:cg p=match fL p.conds 0 []with
   | .error n=>((n:Int),6,[])
   | .ok K=>match jy K 0 p.bp with
     |some i=>(((aj p.conds+i:Nat):Int),6,[])
     |none=>(-1,0,K):=by
  unfold cg
  rw[h1]
  simp only[cond_false]
  rw[show(p.conds.head?.map ae.kind).getD 0=c.kind by rw[hc];rfl,h2]
  rfl
 rw[<- hc]
 refine(acm _ fc .nil p.conds 0 [] (Nat.le_refl _) aO (by simp) (by omega)).call ?_
 cases hk:fL p.conds 0 []with
 |error e=>
  refine⟨_,_,_,_,rfl,ab.t rfl ?_⟩
  rw[hE,hk];rfl
 |ok K=>
  have hKl:K.length<=1000:=by have:=Gl aO hk;simp at this;omega
  refine⟨_,_,_,_,rfl,ab.f rfl ((s_ _ fc p.conds (Nat.le_refl _) hs).call ⟨_,rfl,?_⟩)⟩
  refine ak.each (n:=p.bp.length) (by omega) (λi u=>jy K 0 (p.bp.take i)=none) rfl ?_ ?_
  ·rintro i u next hi hf ar
   have hT:=Be hi hf
   refine ab.t (by simpa using hi) ⟨by omega,_,aw hi,_,_,_,_,_,_,_,_,_,_,_,_,_,_,_,_,_,_,_,rfl,?_⟩
   have QC:j_ K p.bp[i]=true->wk (.aD [pI (IntKind.wrap .i64 (((aj p.conds:Nat):Int)+(i:Int))),pI 6])=.aD [pI (cg p).1,pI (cg p).2.1]:=λhl=>by
    rw[hE,hk]
    simp only[DK hi hf hl,Nat.zero_add]
    rw[az (by omega) (by omega)]
    rfl
   have HB:j_ K p.bp[i]=false->next (IntKind.wrap .i64 ((i:Int)+1)) u:=λhl=>ar _ (by rw[hT,hl];rfl)
   refine(Ve .sh p.bp[i].attr K (by omega)).call ⟨_,rfl,ab.mk (λa1=>?_) (λa1=>?_)⟩
   ·rw[Bool.not_not]at a1;exact QC (by unfold j_;rw[a1];rfl)
   rw[Bool.not_not]at a1
   refine ab.mk (λa2=>?_) (λa2=>HB (by unfold j_;rw[a1,a2];rfl))
   refine(Ve .sh p.bp[i].value.a K (by omega)).call ⟨_,rfl,ab.mk (λa3=>?_) (λa3=>?_)⟩
   ·rw[Bool.not_not]at a3;exact QC (by unfold j_;rw[a1,a2,a3];rfl)
   rw[Bool.not_not]at a3
   refine(Ve .sh p.bp[i].value.b K (by omega)).call ⟨_,rfl,ab.mk (λa4=>?_) (λa4=>?_)⟩
   ·rw[Bool.not_not]at a4;exact QC (by unfold j_;rw[a1,a2,a3,a4];rfl)
   ·rw[Bool.not_not]at a4;exact HB (by unfold j_;rw[a1,a2,a3,a4];rfl)
  ·rintro u next hf
   rw[List.take_length]at hf
   refine ab.f (by simp) ?_
   rw[hE,hk]
   simp only[hf]
   rfl
theorem GI{p:Prod}(h:(cg p).2.1=0):(dF p).2=0/\fL p.conds 0 []=.ok (cg p).2.2:=by
 unfold cg at h |-
 cases h1:(dF p).2 != 0<;>rw[h1]at h
 ·have h0:(dF p).2=0:=by simpa using h1
  refine⟨h0,?_⟩
  simp only[cond_false]at h |-
  cases h2:(p.conds.head?.map ae.kind).getD 0 != 1<;>rw[h2]at h
  ·simp only[cond_false]at h |-
   cases hk:fL p.conds 0 []with
   |error e=>rw[hk]at h;simp at h
   |ok K=>
    rw[hk]at h
    simp only at h |-
    cases hf:jy K 0 p.bp with
    |some i=>rw[hf]at h;simp at h
    |none=>rfl
  ·simp at h
 ·simp only[cond_true]at h;simp[h]at h1
theorem ace(f:Fl)(l:List ae)(hs:aj l<=1000000):Pure prog 237 [.list 7 f (l.map ae.pv)] (pI (aj l:Nat)):=by
 refine ao.of (II.c ?_)
 refine aa.mono (OZ (.func 282) [] [] trivial (λ_ _=>True) (λ_=>False) _ f l 0 0 0 _ (Nat.le_refl _) (by omega) (by omega) trivial λk x μ hx _=>?_) ?_
 ·show aa _ _ _ _ _
  rw[ae.cP]
  exact En.c (.inl ⟨rfl,trivial⟩)
 ·rintro v μ (⟨rfl,_⟩|⟨x,_,h⟩)
  ·refine⟨_,_,rfl,?_⟩
   rw[Nat.zero_add];rfl
  ·exact h.elim
@[reducible] def aad(l:List ae):PV:=.fn (.func 223) [] [.bn [.list 7 .sh (l.map ae.pv)] 0]
theorem af6(f:Fl)(l:List ae):Pure prog 165 [.list 7 f (l.map ae.pv)] (aad l):=ao.of (IJ.c rfl)
theorem WS(l:List ae)(hs:aj l<=1000000):VZ prog (aad l) ((dI l 0 0).map λx=>[pI (x.1:Nat),.agg x.2.2.pv]):=by
 refine VZ.mk λfy ya yb I S μ hy h0 df=>?_
 show aa _ _ [.fn fy ya yb,.bn [.list 7 .sh (l.map ae.pv)] 0] _ _
 refine Eo.c ⟨_,_,rfl,?_⟩
 refine aa.mono (OZ (.func 224) [] [.bn [.fn fy ya yb] 0] trivial I S _ .sh l 0 0 0 _ (Nat.le_refl _) (by omega) (by omega) h0 λk x μ hx hI=>?_) ?_
 ·have hk:k<(dI l 0 0).length:=(List.getElem?_eq_some_iff.1 hx).1
  have hxe:(dI l 0 0)[k]=x:=(List.getElem?_eq_some_iff.1 hx).2
  rw[Nat.zero_add]at hI |-
  have:=df k (by simpa using hk) μ hI
  simp only[List.getElem_map,hxe]at this
  show aa _ _ _ _ _
  rw[ae.cP]at this |-
  refine Ak.c ⟨_,_,_,rfl,bY.mono this ?_⟩
  rintro v μ' (⟨rfl,h⟩|⟨rfl,h⟩)
  ·exact⟨_,rfl,.inl ⟨rfl,h⟩⟩
  ·exact⟨_,rfl,.inr ⟨rfl,h⟩⟩
 ·rintro v μ' (⟨rfl,h⟩|⟨x,rfl,h⟩)
  ·refine⟨_,_,rfl,.inl ?_⟩
   rw[Nat.zero_add]at h
   rw[List.length_map,p_];exact h
  ·exact⟨_,_,rfl,.inr h⟩
end Go.Proofs.YtbodiiomcfgokaaGreat
namespace Go.aK
open Go.RowKit
def lU(b:Nat)(T:TypeId)(sz:Nat)(rows:Lq):aY:=λμ=>∃f,Ow [Pt b T [.list sz f rows],eH f rows.length sz] μ
theorem lU.new{b:Nat}{T:TypeId}{sz:Nat}{L:List aY}{μ:Mem}(h:Ow (Pt b T [.list sz .nil []]::L) μ):Ow (lU b T sz []::L) μ:=by
 have h1:Ow ([Pt b T [.list sz .nil []],eH .nil 0 sz]++L) μ:=h.tail λ_ h=>h.nil (.inl rfl)
 exact h1.pack.imp λ_ h=>⟨.nil,h⟩
theorem lU.rd{L:List aY}{μ:Mem}(i:Nat){b:Nat}{T:TypeId}{sz:Nat}{rows:Lq}(hO:Ow L μ)(hi:L[i]?=some (lU b T sz rows)):∃f,aB μ b 0 1=some [.list sz f rows]:=by
 obtain⟨f,h⟩:=Ow.ex (Ow.at i hi hO)
 exact⟨f,(h.nest (L1:=[Pt b T [.list sz f rows],eH f rows.length sz])).rd 0 rfl (by simp)⟩
theorem lU.go{L:List aY}{μ:Mem}(i:Nat){b:Nat}{T:TypeId}{sz bytes:Nat}{rows new:Lq}{K:Mem->Prop}(hO:Ow L μ)(hi:L[i]?=some (lU b T sz rows))(hb:(rows.length+new.length)*bytes<=140737488355328)(tN:rows.length+new.length<4611686018427387904)
  (hk:∀μ',Ow (L.set i (lU b T sz (rows++new))) μ'->K μ'):∃(f:Fl) (rs:Lq),aB μ b 0 1=some [.list sz f rs]/\aV false sz bytes f rs new μ λf' u=>stM b 0 [.list sz f' (rs++new)] u λu'=>K u':=by
 obtain⟨f,h⟩:=Ow.ex (Ow.at i hi hO)
 have h1:Ow (Pt b T [.list sz f rows]::eH f rows.length sz::L.eraseIdx i) μ:=h.nest (L1:=[Pt b T [.list sz f rows],eH f rows.length sz])
 refine⟨f,rows,h1.rd 0 rfl (by simp),Ow.app h1.swap rfl hb tN λf' u h2=>?_⟩
 refine h2.st 1 rfl (by simp) λu' h3=>hk u' (Ow.back i (tL hi) ?_)
 have h4:Ow (eH f' (rows.length+new.length) sz::Pt b T [.list sz f' (rows++new)]::L.eraseIdx i) u':=h3
 have h5:Ow ([Pt b T [.list sz f' (rows++new)],eH f' (rows++new).length sz]++L.eraseIdx i) u':=by
  rw[List.length_append];exact h4.swap
 exact h5.pack.imp λ_ h=>⟨f',h⟩
theorem lU.end_{L:List aY}{μ:Mem}(i:Nat){b:Nat}{T:TypeId}{sz:Nat}{rows:Lq}(hO:Ow L μ)(hi:L[i]?=some (lU b T sz rows)):∃f,Ow (L.set i (Pt b T [.list sz f rows])) μ:=by
 obtain⟨f,h⟩:=Ow.ex (Ow.at i hi hO)
 have h1:Ow (Pt b T [.list sz f rows]::eH f rows.length sz::L.eraseIdx i) μ:=h.nest (L1:=[Pt b T [.list sz f rows],eH f rows.length sz])
 exact⟨f,Ow.back i (tL hi) (h1.tail λ_ h=>h.drop)⟩
theorem Ow.acD{L:List aY}{μ:Mem}{q:Bool}{size bytes:Nat}{rows new:Lq}{K:Fl->Mem->Prop}(hO:Ow L μ)(hb:(rows.length+new.length)*bytes<=140737488355328)(tN:rows.length+new.length<4611686018427387904)
  (hk:∀lT μ',Ow L μ'->K lT μ'):aV q size bytes .nr rows new μ K:=
 aV.go (fl:=.nr) trivial hb tN (λlT μ' _ h=>hk lT μ' (hO.mono λb o hb=>(h b o hb id).1)) (λ_ b c h=>by cases h)
theorem Ow.ahB{L:List aY}{μ:Mem}{b:Nat}{e:TypeId}{sz:Nat}{rows:Lq}(h:Ow (Pt b e rows.flatten::L) μ):Ow (iW e sz (.raw (.slice (some ⟨b,0,none⟩) rows.length rows.length)) rows::L) μ:=
 h.imp λν hν=>⟨[b],.inr ⟨b,rows.length,[],rfl,rfl,by rw[List.append_nil];exact hν,by simp,Nat.le_refl _⟩⟩
theorem iW.frz{e:TypeId}{sz:Nat}{p:PV}{rows:Lq}{L:List aY}{μ:Mem}(hO:Ow (iW e sz p rows::L) μ)(hr:∀r∈rows,r.length=sz)(hc:br rows.flatten=true):
  ∃(pf:Mem) (bs:List Nat),(∀b o,pf b=some o->μ b=some o/\b∉bs)/\Ow L pf/\mi (λb=>if b∈bs then μ b else none) p (.list sz .sh rows):=by
 obtain⟨F,h,μ1,μ2,hs,rfl,hF,hL⟩:=iW.split hO
 refine⟨μ2,F,λb o hb=>?_,hL,?_⟩
 ·have h1:μ1 b=none:=(hs b).resolve_right (by rw[hb];simp)
  exact⟨by rw[Mem.cj h1];exact hb,λhf=>hF b hf h1⟩
 ·have h2:yG e sz (λb=>if b∈F then(μ1.or μ2) b else none) p rows F:=h.same λx hx=>by simp[hx]
  exact h2.view hr hc
theorem aa.ajW{P:Program}{g:FuncId}{args:List PV}{μ:Mem}{K K':Kq}(h:aa P g args μ K)(hk:∀v μ',K v μ'->∃(v':PV) (pf:Mem) (bs:List Nat),mi (λb=>if b∈bs then μ' b else none) v v'/\(∀b o,pf b=some o->μ' b=some o/\b∉bs)/\K' v' pf):aa P g args μ K':=
 h.freeze λv μ' hK=>by
  obtain⟨v',pf,bs,h1,h2,h3⟩:=hk v μ' hK
  refine⟨v',pf,bs,λZ u r hg hr=>?_,h2,h3⟩
  refine h1.rep (hg.sub λb o hb=>?_) hr
  by_cases hm:b∈bs
  ·rw[if_pos hm]at hb;exact hb
  ·rw[if_neg hm]at hb;cases hb
def Xi:List Nat->List aY->List aY
 |[],L=>L
 |i::is,L=>match L[i]? with|some A=>A::Xi is (L.eraseIdx i)|none=>Xi is L
theorem Ow.ord:∀(is:List Nat) {L:List aY} {μ:Mem},Ow L μ->Ow (Xi is L) μ
 |[],_,_,h=>h
 |i::is,L,μ,h=>by
  unfold Xi
  split
  ·rename_i A hA
   exact(Ow.at i hA h).tail λ_ h'=>Ow.ord is h'
  ·exact Ow.ord is h
theorem lU.open_{L:List aY}{μ:Mem}(i:Nat){b:Nat}{T:TypeId}{sz:Nat}{rows:Lq}(hO:Ow L μ)(hi:L[i]?=some (lU b T sz rows)):∃f,Ow (Pt b T [.list sz f rows]::eH f rows.length sz::L.eraseIdx i) μ:=by
 obtain⟨f,h⟩:=Ow.ex (Ow.at i hi hO)
 exact⟨f,h.nest (L1:=[Pt b T [.list sz f rows],eH f rows.length sz])⟩
theorem lU.shut{L:List aY}{μ:Mem}{b:Nat}{T:TypeId}{sz n:Nat}{f:Fl}{rows:Lq}(h:Ow (eH f n sz::Pt b T [.list sz f rows]::L) μ)(hn:n=rows.length):Ow (lU b T sz rows::L) μ:=by
 subst hn
 have h5:Ow ([Pt b T [.list sz f rows],eH f rows.length sz]++L) μ:=h.swap
 exact h5.pack.imp λ_ h=>⟨f,h⟩
theorem rL{α:Type}(f:α->PV)(xs:List α):(xs.map λx=>[f x]).flatten=xs.map f:=by
 induction xs with
 |nil=>rfl
 |cons x xs ih=>simp only[List.map_cons,List.flatten_cons,ih];rfl
theorem iW.cut{α:Type}{f:α->PV}{e:TypeId}{xs:List α}{L:List aY}{μ:Mem}{a:Option Addr}{n c:Nat}(hO:Ow (iW e 1 (.raw (.slice a n c)) (xs.map λx=>[f x])::L) μ)(hf:∀x,(f x).cell=true){k:Nat}(hk:k<xs.length)(lM:xs.length<=1000000){K:Option Addr->Nat->Nat->Mem->Prop}
  (hK:∀μ',Ow (iW e 1 (.raw (.slice a (xs.length-1) c)) ((xs.eraseIdx k).map λx=>[f x])::L) μ'->K a (xs.length-1) c μ'):
  ju a/\n=xs.length/\n<=c/\lZ 1 8 e (Br a 0 c 1) k c (.raw (.slice (Br a (k+1) c 1) (n-(k+1)) (c-(k+1)))) μ K:=by
 obtain⟨F,h,Gq⟩:=iW.split hO
 rcases h with⟨_,h2,_⟩|⟨b,c',rest,h1,rfl,hb,hl,hc⟩
 ·have:=congrArg List.length h2
  simp at this;subst this;simp at hk
 ·rw[List.length_map]at h1 hl hc
  obtain⟨rfl,rfl,rfl⟩:a=some ⟨b,0,none⟩/\n=xs.length/\c=c':=by
   simp only[PV.raw.injEq,Value.slice.injEq]at h1;exact h1
  rw[rL]at hb
  refine⟨λy hy=>by cases hy;rfl,rfl,hc,?_⟩
  have e0:Br (some ⟨b,0,none⟩) 0 c 1=some ⟨b,0,none⟩:=by
   unfold Br;split
   ·rfl
   ·simp
  obtain⟨o,ho,e1⟩:∃o,(o=k+1\/(o=0/\xs.length=k+1))/\Br (some ⟨b,0,none⟩) (k+1) c 1=some ⟨b,o,none⟩:=by
   unfold Br
   by_cases e:c=k+1
   ·rw[if_pos e];exact⟨0,.inr ⟨rfl,by omega⟩,rfl⟩
   ·rw[if_neg e];exact⟨k+1,.inl rfl,by simp⟩
  rw[e0,e1]
  have hlen:(xs.map f++rest).length=c:=by simp;omega
  have her:(xs.eraseIdx k).length=xs.length-1:=by rw[List.length_eraseIdx,if_pos hk]
  have aba:xs=xs.take k++xs[k]::xs.drop (k+1):=by simp
  have afm:xs.eraseIdx k=xs.take k++xs.drop (k+1):=List.eraseIdx_eq_take_drop_succ xs k
  refine⟨((xs.map f++rest).drop o).take ((xs.length-(k+1))*1),aE hb (by rw[hlen];rcases ho with rfl|⟨rfl,h⟩<;>omega),by omega,by omega,by omega,?_⟩
  by_cases hm:xs.length-(k+1)=0
  ·left
   refine⟨hm,λ_=>⟨b,0,_,rfl,aE hb (by rw[hlen];omega)⟩,?_⟩
   have hke:k=xs.length-1:=by omega
   have:K (some ⟨b,0,none⟩) (xs.length-1) c μ:=by
    refine hK μ ?_
    refine Ow.mv (A:=λ_=>True) Gq (Mv.refl _ _) λν hν=>⟨[b],.inr ⟨b,c,f xs[k]::rest,by rw[List.length_map,her],rfl,?_,?_,?_⟩⟩
    ·rw[hν b (by simp),hb,rL,afm]
     have hd:xs.drop (k+1)=[]:=List.drop_eq_nil_of_le (by omega)
     rw[hd,List.append_nil]
     conv=>lhs;rw[aba,hd]
     rw[List.map_append,List.append_assoc];rfl
    ·rw[List.length_map,her,List.length_cons];omega
    ·rw[List.length_map,her];omega
   rw[<- hke]at this
   exact this
  ·right
   have aO:o=k+1:=by rcases ho with h|⟨_,h⟩<;>omega
   subst aO
   have ll:((xs.map f++rest).drop (k+1)).take ((xs.length-(k+1))*1)=(xs.drop (k+1)).map f:=by
    rw[List.drop_append_of_le_length (by simp;omega),Nat.mul_one,List.take_append_of_le_length (by simp),<- List.map_drop,List.take_of_length_le (by simp)]
   rw[ll]
   refine⟨hm,?_,λ_=>⟨b,0,_,_,rfl,hb,by rw[hlen];omega,?_⟩,λh=>by omega⟩
   ·rw[br,List.all_eq_true]
    intro p hp
    obtain⟨x,_,rfl⟩:=List.mem_map.1 hp
    exact hf x
   ·have ekm:k+(xs.length-(k+1))=xs.length-1:=by omega
    rw[ekm]
    refine hK _ (Ow.mv (A:=λ_=>True) Gq (Mv.set (.inl (by simp))) λν hν=>⟨[b],.inr ⟨b,c,((xs.map f).drop (xs.length-1))++rest,by rw[List.length_map,her],rfl,?_,?_,?_⟩⟩)
    ·rw[hν b (by simp),Mem.aq,rL,afm]
     congr 2
     unfold dN
     rw[Nat.zero_add,Nat.mul_one,List.take_append_of_le_length (by simp;omega),List.length_map,List.length_drop,List.drop_append_of_le_length (by simp;omega),ekm,List.map_append,List.map_take,List.append_assoc]
    ·rw[List.length_map,her,List.length_append,List.length_drop,List.length_map];omega
    ·rw[List.length_map,her];omega
theorem ak.UJ{γ:Type}{body:(Int->γ->Prop)->Int->γ->Prop}{u:γ}(n:Nat)(I:Nat->γ->Prop)(h0:I n u)
  (gG:∀(k:Nat) (u:γ) (next:Int->γ->Prop),k<n->I (k+1) u->(∀u',I k u'->next ((k:Int)-1) u')->body next (k:Int) u) (gM:∀(u:γ) (next:Int->γ->Prop),I 0 u->body next (-1) u):ak body ((n:Int)-1) u:=by
 refine⟨λm s u=>s=(m:Int)-1/\m<=n/\I m u,⟨n,rfl,Nat.le_refl _,h0⟩,?_⟩
 rintro m s u ⟨rfl,hm,hI⟩
 cases m with
 |zero=>exact gM u _ hI
 |succ k=>
  have e:((k+1:Nat):Int)-1=(k:Int):=by omega
  rw[e]
  exact gG k u _ (by omega) hI λu' eU=>⟨k,by omega,rfl,by omega,eU⟩
end Go.aK
namespace Go.Proofs.YtbodiiomcfgokaaGreat
open Go.Proofs.Tryz Go.aK Go.RowKit K6
theorem xU(X Y L:List aY){μ:Mem}(h:Ow (X++(Y++L)) μ):Ow (Y++(X++L)) μ:=h.perm (by
 rw[<- List.append_assoc,<- List.append_assoc]
 exact List.perm_append_comm.append_right L)
@[reducible] def aeh(b:List aK.Bind):List PV:=[.list 4 .sh (b.map Bind.pv)]
def hY(rows:List (List aK.Bind)):Lq:=rows.map aeh
mutual
def lY(ms:dL)(aG:List Int):Nat->ae->Prop
 |at_,.mk k g i a v ac cs=>at_<aG.length/\(if k=1\/k=2 then(∀h:at_<aG.length,eO ms aG[at_] (.mk k g i a v ac cs))/\i≠⟨#[]⟩else yt ms aG (at_+1) cs)
def yt(ms:dL)(aG:List Int):Nat->List ae->Prop
 |_,[]=>True
 |at_,c::cs=>lY ms aG at_ c/\yt ms aG (at_+aR c) cs
end
theorem yu(ms:dL)(aG:List Int)(a:Nat)(c:ae):lY ms aG a c↔a<aG.length/\(if c.kind=1\/c.kind=2 then(∀h:a<aG.length,eO ms aG[a] c)/\c.id≠⟨#[]⟩else yt ms aG (a+1) c.conds):=by cases c;rfl
theorem KI{ms:dL}{aG:List Int}:∀{l:List ae} {a i:Nat} (hi:i<l.length),yt ms aG a l->lY ms aG (a+aj (l.take i)) l[i]
 |c::cs,a,0,_,h=>by simpa[aj]using h.1
 |c::cs,a,i+1,hi,h=>by
  have:=KI (l:=cs) (a:=a+aR c) (i:=i) (by simpa using hi) h.2
  simp only[List.take_succ_cons,aj,List.getElem_cons_succ]
  rw[<- Nat.add_assoc];exact this
theorem Sd{cv:Nat->Nat}{a m:Nat}{f:Nat->Nat}(h0:f 0=m)(h1:∀j,f (j+1)=0):oG cv a (cv a+m)=λj=>cv j+sh a f j:=by
 funext j
 unfold oG sh
 by_cases e:j=a
 ·subst e;rw[if_pos rfl,if_pos (Nat.le_refl _),Nat.sub_self,h0]
 ·rw[if_neg e]
  by_cases h:a<=j
  ·rw[if_pos h]
   obtain⟨q,hq⟩:∃q,j-a=q+1:=⟨j-a-1,by omega⟩
   rw[hq,h1];rfl
  ·rw[if_neg h];rfl
mutual
def vC:ae->Prop
 | .mk k g i a v ac cs=>cr (.mk k g i a v ac cs)/\((k=1\/k=2)->i≠⟨#[]⟩)/\ud cs
def ud:List ae->Prop
 |[]=>True
 |c::cs=>vC c/\ud cs
end
theorem oO(c:ae):vC c↔cr c/\((c.kind=1\/c.kind=2)->c.id≠⟨#[]⟩)/\ud c.conds:=by cases c;rfl
theorem jX{l:List ae}:ud l↔∀c∈l,vC c:=by
 induction l with
 |nil=>simp[ud]
 |cons c l ih=>simp[ud,ih]
theorem nG{l:List ae}(h:ud l):bD l:=bH.2 λc hc=>((oO c).1 (jX.1 h c hc)).1
theorem VE(rows:List (List aK.Bind)){k:Nat}(hk:k<rows.length):(hY rows)[Int.toNat (k:Int)]?=some (aeh rows[k]):=aw hk
theorem FT(a b:List (List aK.Bind)):hY (a++b)=hY a++hY b:=List.map_append
theorem jG(a:List (List aK.Bind)):(hY a).length=a.length:=List.length_map _
theorem zY{es:List af}{c:ae}(b:List aK.Bind)(h:c.kind=1\/c.kind=2)(j:Nat):cC es c b (j+1)=0:=by rw[tV,if_pos h]
theorem Mg(a:Nat)(es:List af)(r:List (List aK.Bind))(j:Nat):sh a (cL es [] r) j=0:=by unfold sh;split<;>rfl
theorem Vx{es:List af}{c:ae}{b:List aK.Bind}(h:¬(c.kind=1\/c.kind=2))(a j:Nat):sh a (cC es c b) j=(if j=a then(jQ es c b).length else 0)+sh (a+1) (cL es c.conds [b]) j:=by
 unfold sh
 by_cases e:j=a
 ·subst e
  rw[if_pos (Nat.le_refl _),Nat.sub_self,pb,if_pos rfl,if_neg (by omega)]
  rfl
 ·rw[if_neg e]
  by_cases h1:a<=j
  ·rw[if_pos h1,if_pos (by omega)]
   obtain⟨q,hq⟩:∃q,j-a=q+1:=⟨j-a-1,by omega⟩
   rw[hq,tV,if_neg h,show j-(a+1)=q from by omega]
   omega
  ·rw[if_neg h1,if_neg (by omega)]
theorem Jn{es:List af}{c:ae}{rows:List (List aK.Bind)}{k:Nat}(hk:k<rows.length)(a j:Nat):sh a (eh es c (rows.take (k+1))) j=sh a (eh es c (rows.take k)) j+sh a (cC es c rows[k]) j:=by
 rw[<- Mh];exact xF (λq=>PE es c hk q) j
theorem zL{α β:Type}{f:α->List β}{l:List α}{k:Nat}(hk:k<l.length):(l.take (k+1)).flatMap f=(l.take k).flatMap f++f l[k]:=by
 rw[List.take_add_one,List.getElem?_eq_getElem hk,List.flatMap_append];simp
section
variable {w:Nat} {W:WC} {x:NC} {es:List af} {ms:dL} {ids:pt}
theorem Hs{b4 b7 b8 b9:Nat}{cv:Nat->Nat}{pa:PV}{B:aY}{L:List aY}{u:Mem}{R:Kq}
  (h:Ow (Pt w 266 W.pv::fV W cv::an W.n x es ms ids::B::Pt b9 4 [pB false]::Pt b8 274 [.list 1 .nil []]::Pt b7 3 [pa]::Pt b4 264 [pP w 0]::L) u)
  (hR:∀μ',Ow (Pt w 266 W.pv::fV W cv::an W.n x es ms ids::L) μ'->R (.aD [.list 1 .nil [],pB false]) μ'):
  stM b8 0 [(.list 1 .nil [])] u λZb=>stM b9 0 [(pB false)] Zb λWB=>∃(r0f:Fl) (r0:Lq),aB WB b8 0 1=some [(.list 1 r0f r0)]/\∃(r1:Bool),aB WB b9 0 1=some [(pB r1)]/\R (.aD [(.list 1 r0f r0),(pB r1)]) WB:=by
 refine h.st 5 rfl (by simp) λu1 h1=>h1.st 4 rfl (by simp) λu2 h2=>?_
 refine⟨_,_,h2.rd 5 rfl (by simp[dN]),_,h2.rd 4 rfl (by simp[dN]),?_⟩
 exact hR u2 (h2.tail λ_ h=>h.tail λ_ h=>h.tail λ_ h=>h.drop.drop.drop.drop.drop)
theorem cOn(hA:eC es ms)(hI:kJ es ids)(hT:0<=x.T/\x.T<=1000000)(hN:W.aG.length=W.N):∀(n:Nat) (l:List ae) (f fl:Fl) (b:List aK.Bind) (a:Nat) (cv:Nat->Nat) {L:List aY} {μ:Mem},aj l<=n->ud l->yt ms W.aG a l->a+aj l<=1000->(∀j,((cv j:Nat):Int)<=x.T)->b.length+100*aj l<=900000->
  Ow (Pt w 266 W.pv::fV W cv::an W.n x es ms ids::L) μ->∀{K:Kq},
  ((∀j,((cv j+sh a (cL es l [b]) j:Nat):Int)<=x.T)->∀f μ',Ow (Pt w 266 W.pv::fV W (λj=>cv j+sh a (cL es l [b]) j)::an W.n x es ms ids::L) μ'->K (.aD [.list 1 f (hY (kD es l [b])),pB true]) μ')->
  ((∃j,x.T<((cv j+sh a (cL es l [b]) j:Nat):Int))->∀rV μ',Ow (Pt w 266 W.pv::fV W rV::an W.n x es ms ids::L) μ'->K (.aD [.list 1 .nil [],pB false]) μ')->
  aa prog 170 [pP w 0,.list 7 f (l.map ae.pv),.list 4 fl (b.map Bind.pv),pI ((a:Nat):Int)] μ K:=by
 intro n
 induction n using Nat.strongRecOn with
 |ind n ih=>
 intro l f fl b a cv L μ hs aO vZ ha hcv hb hO K h1 h0
 have sM:=ch l
 have MT:=nG aO
 obtain⟨hT0,hT1⟩:=hT
 refine Ep.c λb4 xv b7 rT b8 uj b9 hb9=>?_
 have O1:=(((hO.new 264 [pP w 0] xv).new 3 [pI ((a:Nat):Int)] rT).new 274 [.list 1 .nil []] uj).new 4 [pB false] hb9
 have O2:=xU [Pt b9 4 [pB false],Pt b8 274 [.list 1 .nil []],Pt b7 3 [pI ((a:Nat):Int)],Pt b4 264 [pP w 0]] [Pt w 266 W.pv,fV W cv,an W.n x es ms ids] L O1
 refine ak.dm (n:=l.length) (by omega) (λi s u=>s.2=hY (kD es (l.take i) [b])/\(kD es (l.take i) [b]).length<=1000001/\(∀j,((cv j+sh a (cL es (l.take i) [b]) j:Nat):Int)<=x.T)/\Ow (Pt w 266 W.pv::fV W (λj=>cv j+sh a (cL es (l.take i) [b]) j)::an W.n x es ms ids::Pt b9 4 [pB false]::Pt b8 274 [.list 1 .nil []]::Pt b7 3 [pI ((a+aj (l.take i):Nat):Int)]::Pt b4 264 [pP w 0]::L) u) ⟨rfl,by simp[kD],λj=>?_,?_⟩ ?_ ?_
 ·rw[List.take_zero,Mg];exact hcv j
 ·have e:(λj=>cv j+sh a (cL es (l.take 0) [b]) j)=cv:=by funext j;rw[List.take_zero,Mg];rfl
  rw[e]
  exact O2
 ·rintro i ⟨fr,_⟩ u next hi ⟨rfl,hRl,hC,Fe⟩ ar
  dsimp only
  refine ab.t (by simpa using hi) ⟨by omega,_,aw hi,_,_,_,_,_,_,_,_,_,_,iI _,λEf HS=>?_⟩
  generalize hRi:kD es (l.take i) [b]=Ri at*
  generalize hai:a+aj (l.take i)=ai at*
  generalize hCi:(λj=>cv j+sh a (cL es (l.take i) [b]) j)=Ci at*
  have afH:∀j,cv j+sh a (cL es (l.take i) [b]) j=Ci j:=λj=>by rw[<- hCi]
  simp only[afH]at hC
  have hc:vC l[i]:=jX.1 aO _ (List.getElem_mem hi)
  have hfc:lY ms W.aG ai l[i]:=by rw[<- hai];exact KI hi vZ
  have gD:ai+aR l[i]<=a+aj l:=by
   have h1:=jE hi
   have h2:=fX l (i+1)
   omega
  have aeO:aR l[i]=1+aj l[i].conds:=bM _
  obtain⟨iV,Uk,OP⟩:=(oO _).1 hc
  obtain⟨MY,HP⟩:=(yu ms W.aG ai l[i]).1 hfc
  have hRb:∀r∈Ri,r.length<=b.length+100*aj (l.take i):=by
   rw[<- hRi]
   refine Oq (bH.2 λd hd=>bH.1 MT d (List.mem_of_mem_take hd)) λr hr=>?_
   simp only[List.mem_singleton]at hr;subst hr;exact Nat.le_refl _
  have gV:aj (l.take i)<=aj l:=fX l i
  have aff:kD es (l.take (i+1)) [b]=Ri.flatMap λr=>jQ es l[i] r:=by rw[SZ es hi,hRi]
  have Uj:∀j,cv j+sh a (cL es (l.take (i+1)) [b]) j=Ci j+sh ai (eh es l[i] Ri) j:=λj=>by
   rw[<- afH j,show sh a (cL es (l.take (i+1)) [b]) j=sh a (cL es (l.take i) [b]) j+sh ai (eh es l[i] Ri) j from ?_]
   ·omega
   ·rw[xF (λq=>Ca es hi [b] q),Mh,Ze,hai,hRi]
  have afj:∀j k,Ci j+sh ai (eh es l[i] (Ri.take k)) j<=cv j+sh a (cL es l [b]) j:=λj k=>by
   have h2:sh ai (eh es l[i] (Ri.take k)) j<=sh ai (eh es l[i] Ri) j:=Zf (λq=>WO es l[i] Ri k q) j
   have h3:sh a (cL es (l.take (i+1)) [b]) j<=sh a (cL es l [b]) j:=Zf (λq=>af4 es l (i+1) [b] q) j
   have h4:=Uj j
   omega
  have O4:=xU [lU Ef 274 1 []] [Pt w 266 W.pv,fV W Ci,an W.n x es ms ids] _ (lU.new (Fe.new 274 [.list 1 .nil []] HS))
  refine ak.each (n:=Ri.length) (by omega) (λk u=>(∀j,((Ci j+sh ai (eh es l[i] (Ri.take k)) j:Nat):Int)<=x.T)/\Ow (Pt w 266 W.pv::fV W (λj=>Ci j+sh ai (eh es l[i] (Ri.take k)) j)::an W.n x es ms ids::lU Ef 274 1 (hY ((Ri.take k).flatMap λr=>jQ es l[i] r))::Pt b9 4 [pB false]::Pt b8 274 [.list 1 .nil []]::Pt b7 3 [pI ((ai:Nat):Int)]::Pt b4 264 [pP w 0]::L) u) ⟨λj=>?_,?_⟩ ?_ ?_
  ·have:sh ai (eh es l[i] (Ri.take 0)) j=0:=by unfold sh;split<;>rfl
   rw[this];exact hC j
  ·have e:(λj=>Ci j+sh ai (eh es l[i] (Ri.take 0)) j)=Ci:=by
    funext j
    have:sh ai (eh es l[i] (Ri.take 0)) j=0:=by unfold sh;split<;>rfl
    rw[this];rfl
   rw[e]
   exact O4
  ·intro k u1 iJ hk ⟨hD,zI⟩ gu
   have hbk:=hRb _ (List.getElem_mem hk)
   generalize hDf:(λj=>Ci j+sh ai (eh es l[i] (Ri.take k)) j)=D at zI
   have QJ:∀j,Ci j+sh ai (eh es l[i] (Ri.take k)) j=D j:=λj=>by rw[<- hDf]
   simp only[QJ]at hD
   have hFl:((((Ri.take k).flatMap λr=>jQ es l[i] r).length:Nat):Int)<=x.T:=by
    have h2:=hD ai
    rw[<- QJ ai,Jv,ze]at h2
    omega
   have eT:∀u',(∀j,((D j+sh ai (cC es l[i] Ri[k]) j:Nat):Int)<=x.T)->Ow (Pt w 266 W.pv::fV W (λj=>D j+sh ai (cC es l[i] Ri[k]) j)::an W.n x es ms ids::lU Ef 274 1 (hY ((Ri.take k).flatMap λr=>jQ es l[i] r)++hY (jQ es l[i] Ri[k]))::Pt b9 4 [pB false]::Pt b8 274 [.list 1 .nil []]::Pt b7 3 [pI ((ai:Nat):Int)]::Pt b4 264 [pP w 0]::L) u'->iJ (IntKind.wrap .i64 ((k:Int)+1)) u':=λu' h2 h3=>by
    have e:(λj=>D j+sh ai (cC es l[i] Ri[k]) j)=λj=>Ci j+sh ai (eh es l[i] (Ri.take (k+1))) j:=by
     funext j;rw[Jn hk,<- QJ j];omega
    refine gu u' ⟨λj=>?_,?_⟩
    ·rw[<- congrFun e j];exact h2 j
    ·rw[<- e,zL hk,FT];exact h3
   have DA:(∃q,x.T<((D q+sh ai (cC es l[i] Ri[k]) q:Nat):Int))->∀rV μ',Ow (Pt w 266 W.pv::fV W rV::an W.n x es ms ids::L) μ'->K (.aD [.list 1 .nil [],pB false]) μ':=λ⟨q,hq⟩=>h0 ⟨q,by
    have h2:=afj q (k+1)
    rw[Jn hk]at h2
    have h3:=QJ q
    omega⟩
   refine ab.t (by simpa[hY]using hk) ⟨by omega,_,VE Ri hk,_,_,rfl,?_⟩
   refine ab.mk (λjw=>?_) (λjw=>ab.mk (λfH=>?_) (λfH=>?_))
   ·have sO:l[i].kind=1:=by simpa using jw
    rw[if_pos (.inl sO)]at HP
    have hco:Ez l[i]:=⟨iV,Uk (.inl sO)⟩
    refine⟨_,zI.rd 7 rfl (by simp),_,zI.rd 0 rfl (by simp),_,zI.rd 7 rfl (by simp),_,_,zI.rd 0 rfl (by simp),_,zI.rd 6 rfl (by simp),by omega,_,vK MY,_,rfl,?_⟩
    refine Ik (an.qz (x:=x) (es:=es) (ms:=ms) (ids:=ids) zI (by simp)) l[i] _ _ _ _ Ri[k] (by omega) W.aG[ai] ?_
    obtain⟨fe,ga,gb,hf⟩:=zd W.n x.al W.aG[ai] (iw Ri[k] l[i].id)
    rw[hf]
    refine⟨_,_,_,rfl,?_⟩
    rw[Mem.oM]
    refine(Vb fe ga gb l[i] _ _ _ _ Ri[k] (by omega)).call ⟨_,_,_,rfl,?_⟩
    have y_:jQ es l[i] Ri[k]=(aN l[i] Ri[k] es).map (·.2):=by rw[iQ,if_pos sO]
    have Ku:cC es l[i] Ri[k] 0=(aN l[i] Ri[k] es).length:=by rw[pb,y_,List.length_map]
    have mR:∀j,cC es l[i] Ri[k] (j+1)=0:=λj=>zY _ (.inl sO) j
    refine bk.own (zo hA hI hco (HP.1 MY) (by omega) hf) (Ow.at 2 rfl zI)
     (λm u=>(((D ai+m:Nat):Int)<=x.T)/\Ow (Pt w 266 W.pv::fV W (oG D ai (D ai+m))::an W.n x es ms ids::lU Ef 274 1 (hY ((Ri.take k).flatMap λr=>jQ es l[i] r)++hY (((aN l[i] Ri[k] es).take m).map (·.2)))::Pt b9 4 [pB false]::Pt b8 274 [.list 1 .nil []]::Pt b7 3 [pI ((ai:Nat):Int)]::Pt b4 264 [pP w 0]::L) u)
     (λcd u=>cd=.ret/\(∃q,x.T<((D q+sh ai (cC es l[i] Ri[k]) q:Nat):Int))/\∃rV rs,Ow (Pt w 266 W.pv::fV W rV::an W.n x es ms ids::lU Ef 274 1 rs::Pt b9 4 [pB false]::Pt b8 274 [.list 1 .nil []]::Pt b7 3 [pI ((ai:Nat):Int)]::Pt b4 264 [pP w 0]::L) u)
     (λm=>fJ.and (fJ.own _)) (λcd=>fJ.and (fJ.and (fJ.ex λ_=>fJ.ex λ_=>fJ.own _))) (λμ' h'=>⟨by simpa using hD ai,?_⟩) ?_ ?_ ?_
    ·have e:oG D ai (D ai+0)=D:=by funext j;unfold oG;split<;>simp_all
     rw[e]
     have h'':Ow ([an W.n x es ms ids]++([Pt w 266 W.pv,fV W D]++(lU Ef 274 1 (hY ((Ri.take k).flatMap λr=>jQ es l[i] r))::Pt b9 4 [pB false]::Pt b8 274 [.list 1 .nil []]::Pt b7 3 [pI ((ai:Nat):Int)]::Pt b4 264 [pP w 0]::L))) μ':=h'
     simpa[hY]using xU _ _ _ h''
    ·rintro m hm u2 R ⟨hDm,oz⟩ bU kg
     have uY:m<(aN l[i] Ri[k] es).length:=by simpa using hm
     rw[List.getElem_map]
     refine⟨_,_,_,_,_,_,_,_,_,_,_,_,_,_,rfl,_,oz.rd 7 rfl (by simp),_,oz.rd 6 rfl (by simp),?_⟩
     refine yC oz ai (by omega) (by unfold oG;rw[if_pos rfl];omega) λu3 h3=>⟨_,rfl,?_⟩
     have eu:oG (oG D ai (D ai+m)) ai (oG D ai (D ai+m) ai+1)=oG D ai (D ai+(m+1)):=by
      funext j;unfold oG;by_cases e:j=ai
      ·simp[e];omega
      ·simp[e]
     have ev:oG D ai (D ai+m) ai=D ai+m:=by unfold oG;simp
     rw[eu]at h3
     rw[ev]
     refine ab.mk (λcm=>?_) (λEX=>?_)
     ·have TU:x.T<((D ai+m+1:Nat):Int):=by simpa using cm
      refine h3.st 5 rfl (by simp) λu4 h4=>h4.st 4 rfl (by simp) λu5 h5=>kg _ _ ⟨rfl,⟨ai,?_⟩,_,_,h5⟩
      rw[Jv,Ku];omega
     ·have Kb:((D ai+m+1:Nat):Int)<=x.T:=by simpa using EX
      have hlen:(hY ((Ri.take k).flatMap λr=>jQ es l[i] r)++hY (((aN l[i] Ri[k] es).take m).map (·.2))).length<=2000000:=by
       rw[List.length_append,jG,jG,List.length_map,List.length_take];omega
      refine lU.go 3 h3 rfl (by simp only[List.length_cons,List.length_nil];omega) (by simp only[List.length_cons,List.length_nil];omega) λu4 h4=>bU _ ⟨by omega,?_⟩
      have e2:hY ((Ri.take k).flatMap λr=>jQ es l[i] r)++hY (((aN l[i] Ri[k] es).take (m+1)).map (·.2))=(hY ((Ri.take k).flatMap λr=>jQ es l[i] r)++hY (((aN l[i] Ri[k] es).take m).map (·.2)))++[[.list 4 .sh ((aN l[i] Ri[k] es)[m].2.map Bind.pv)]]:=by
       rw[dT uY,FT,List.append_assoc];rfl
      rw[e2];exact h4
    ·rintro u2 ⟨hDm,oz⟩
     rw[List.length_map]at hDm oz
     dsimp only[PK]
     have e:=Sd (cv:=D) (a:=ai) (f:=cC es l[i] Ri[k]) Ku mR
     refine eT u2 (λj=>?_) ?_
     ·rw[<- congrFun e j]
      unfold oG
      split
      ·exact hDm
      ·exact hD j
     ·rw[<- e,y_]
      rw[List.take_length]at oz
      exact oz
    ·rintro cd u2 ⟨rfl,hq,rV,rs,oz⟩
     dsimp only[PK]
     refine⟨_,_,oz.rd 5 rfl (by simp),_,oz.rd 4 rfl (by simp),?_⟩
     exact DA hq rV u2 (oz.tail λ_ h=>h.tail λ_ h=>h.tail λ_ h=>h.drop.drop.drop.drop.drop)
   ·have MU:l[i].kind=2:=by simpa using fH
    have sO:¬l[i].kind=1:=by simpa using jw
    rw[if_pos (.inr MU)]at HP
    have hco:Ez l[i]:=⟨iV,Uk (.inr MU)⟩
    have y_:jQ es l[i] Ri[k]=if(aN l[i] Ri[k] es).isEmpty then[Ri[k]]else[]:=by rw[iQ,if_neg sO,if_pos MU]
    have mR:∀j,cC es l[i] Ri[k] (j+1)=0:=λj=>zY _ (.inr MU) j
    refine⟨_,zI.rd 7 rfl (by simp),_,zI.rd 6 rfl (by simp),?_⟩
    refine acd hA hI (zI.tail λ_ h=>h.swap) hco _ _ _ _ (by omega) MY (HP.1 MY) λu2 afC=>⟨_,rfl,?_⟩
    have oz:=afC.tail λ_ h=>h.swap
    clear afC
    refine ab.mk (λlM=>?_) (λlM=>?_)
    ·have hz:(aN l[i] Ri[k] es).isEmpty=false:=nb lM
     rw[hz]at y_
     simp only[Bool.false_eq_true,if_false]at y_
     have hcz:∀j,sh ai (cC es l[i] Ri[k]) j=0:=λj=>by
      unfold sh;split
      ·cases j-ai with
       |zero=>rw[pb,y_];rfl
       |succ q=>exact mR q
      ·rfl
     have e:(λj=>D j+sh ai (cC es l[i] Ri[k]) j)=D:=by funext j;rw[hcz];rfl
     refine eT u2 (λj=>by rw[hcz];exact hD j) ?_
     rw[e,y_];simpa[hY]using oz
    ·have hz:(aN l[i] Ri[k] es).isEmpty=true:=nt lM
     rw[hz]at y_
     simp only[if_true]at y_
     have Ku:cC es l[i] Ri[k] 0=1:=by rw[pb,y_];rfl
     have e:=Sd (cv:=D) (a:=ai) (f:=cC es l[i] Ri[k]) Ku mR
     have hDa:=hD ai
     refine⟨_,oz.rd 7 rfl (by simp),_,oz.rd 6 rfl (by simp),yC oz ai (by omega) (by omega) λu3 h3=>⟨_,rfl,ab.mk (λcm=>?_) (λEX=>?_)⟩⟩
     ·have TU:x.T<((D ai+1:Nat):Int):=by simpa using cm
      exact Hs h3 (DA ⟨ai,by rw[Jv,Ku];exact TU⟩ _)
     ·have Kb:((D ai+1:Nat):Int)<=x.T:=by simpa using EX
      refine lU.go 3 h3 rfl (by rw[jG];simp only[List.length_cons,List.length_nil];omega) (by rw[jG];simp only[List.length_cons,List.length_nil];omega) λu4 h4=>eT u4 (λj=>?_) ?_
      ·rw[<- congrFun e j]
       unfold oG
       split
       ·exact Kb
       ·exact hD j
      ·rw[<- e,y_];exact h4
   ·have MU:¬l[i].kind=2:=by simpa using fH
    have sO:¬l[i].kind=1:=by simpa using jw
    have hk3:¬(l[i].kind=1\/l[i].kind=2):=λh=>h.elim sO MU
    rw[if_neg hk3]at HP
    have y_:jQ es l[i] Ri[k]=if(kD es l[i].conds [Ri[k]]).isEmpty then[Ri[k]]else[]:=by rw[iQ,if_neg sO,if_neg MU]
    have X_:=Vx (es:=es) (b:=Ri[k]) hk3 ai
    refine⟨_,zI.rd 7 rfl (by simp),_,zI.rd 6 rfl (by simp),?_⟩
    rw[az (by omega) (by omega),show((ai:Int)+1)=((ai+1:Nat):Int)from by omega]
    refine ih (aj l[i].conds) (by omega) l[i].conds .sh .sh Ri[k] (ai+1) D (Nat.le_refl _) OP HP (by omega) hD (by omega) zI (λhE fr2 u2 oz=>⟨_,_,_,rfl,ab.f rfl ?_⟩) (λ⟨q,hq⟩ rV u2 oz=>⟨_,_,_,rfl,ab.t rfl ?_⟩)
    ·simp only[jG]
     refine ab.mk (λlM=>?_) (λlM=>?_)
     ·have aT:0<(kD es l[i].conds [Ri[k]]).length:=by simpa using lM
      have hz:(kD es l[i].conds [Ri[k]]).isEmpty=false:=by
       cases hx:kD es l[i].conds [Ri[k]]with
       |nil=>rw[hx]at aT;simp at aT
       |cons y ys=>rfl
      rw[hz]at y_
      simp only[Bool.false_eq_true,if_false]at y_
      have e:∀j,sh ai (cC es l[i] Ri[k]) j=sh (ai+1) (cL es l[i].conds [Ri[k]]) j:=λj=>by rw[X_ j,y_];simp
      refine eT u2 (λj=>by rw[e j];exact hE j) ?_
      rw[show(λj=>D j+sh ai (cC es l[i] Ri[k]) j)=(λj=>D j+sh (ai+1) (cL es l[i].conds [Ri[k]]) j)from funext λj=>by rw[e j],y_]
      simpa[hY]using oz
     ·have aT:(kD es l[i].conds [Ri[k]]).length=0:=by simpa using lM
      have hz:(kD es l[i].conds [Ri[k]]).isEmpty=true:=by rw[List.isEmpty_iff];exact List.eq_nil_of_length_eq_zero aT
      rw[hz]at y_
      simp only[if_true]at y_
      have hEa:sh (ai+1) (cL es l[i].conds [Ri[k]]) ai=0:=by unfold sh;rw[if_neg (by omega)]
      have ajP:=hE ai
      rw[hEa]at ajP
      have e:oG (λj=>D j+sh (ai+1) (cL es l[i].conds [Ri[k]]) j) ai ((D ai+sh (ai+1) (cL es l[i].conds [Ri[k]]) ai)+1)=λj=>D j+sh ai (cC es l[i] Ri[k]) j:=by
       funext j
       rw[X_ j,y_]
       unfold oG
       by_cases e:j=ai
       ·subst e;rw[if_pos rfl,if_pos rfl,hEa];rfl
       ·rw[if_neg e,if_neg e];dsimp only;omega
      refine⟨_,oz.rd 7 rfl (by simp),_,oz.rd 6 rfl (by simp),yC oz ai (by omega) (by rw[hEa];omega) λu3 h3=>⟨_,rfl,ab.mk (λcm=>?_) (λEX=>?_)⟩⟩
      ·have TU:x.T<((D ai+1:Nat):Int):=by
        have h2:x.T<((D ai+sh (ai+1) (cL es l[i].conds [Ri[k]]) ai+1:Nat):Int):=by simpa using cm
        rw[hEa]at h2;exact h2
       refine Hs h3 (DA ⟨ai,?_⟩ _)
       rw[X_ ai,y_,if_pos rfl,hEa];exact TU
      ·have Kb:((D ai+1:Nat):Int)<=x.T:=by
        have h2:((D ai+sh (ai+1) (cL es l[i].conds [Ri[k]]) ai+1:Nat):Int)<=x.T:=by simpa using EX
        rw[hEa]at h2;exact h2
       refine lU.go 3 h3 rfl (by rw[jG];simp only[List.length_cons,List.length_nil];omega) (by rw[jG];simp only[List.length_cons,List.length_nil];omega) λu4 h4=>eT u4 (λj=>?_) ?_
       ·rw[<- congrFun e j]
        unfold oG
        split
        ·rw[hEa];exact Kb
        ·exact hE j
       ·rw[<- e,y_];exact h4
    ·refine Hs oz (DA ⟨q,?_⟩ rV)
     rw[X_ q];omega
  ·intro u1 iJ ⟨hD,zI⟩
   refine ab.f (by simp[hY]) ?_
   rw[List.take_length]at zI hD
   obtain⟨f2,hf2⟩:=lU.rd 3 zI rfl
   have hS:=ace .nr [l[i]] (by simp only[aj];omega)
   rw[show[l[i]].map ae.pv=[l[i].pv]from rfl,ae.cP]at hS
   refine⟨_,_,hf2,_,zI.rd 6 rfl (by simp),hS.q ⟨_,rfl,?_⟩⟩
   rw[Mem.oM]
   refine zI.st 6 rfl (by simp) λu2 h2=>ar _ _ ⟨by rw[aff],?_,λj=>by rw[Uj j];exact hD j,?_⟩
   ·have h3:=hD ai
    rw[Jv,ze]at h3
    rw[aff];omega
   ·have e1:(λj=>cv j+sh a (cL es (l.take (i+1)) [b]) j)=λj=>Ci j+sh ai (eh es l[i] Ri) j:=funext Uj
    rw[e1]
    have e2:dN [pI ((ai:Nat):Int)] 0 [pI (IntKind.wrap .i64 (((ai:Nat):Int)+((aj [l[i]]:Nat):Int)))]=[pI ((a+aj (l.take (i+1)):Nat):Int)]:=by
     have h3:=jE hi
     have h4:aj [l[i]]=aR l[i]:=by simp[aj]
     rw[h4,az (by omega) (by omega)]
     show[pI _]=_
     congr 2;omega
    rw[e2]at h2
    exact h2.tail λ_ h=>h.tail λ_ h=>h.tail λ_ h=>h.drop
 ·rintro⟨fr,_⟩ u next ⟨rfl,hRl,hC,Fe⟩
  refine ab.f (by simp) ?_
  rw[List.take_length]at hC Fe |-
  refine Fe.st 4 rfl (by simp) λu1 Gw=>Gw.st 3 rfl (by simp) λu2 h2=>?_
  refine⟨_,_,h2.rd 4 rfl (by simp[dN]),_,h2.rd 3 rfl (by simp[dN]),?_⟩
  exact h1 hC _ _ (h2.tail λ_ h=>h.tail λ_ h=>h.tail λ_ h=>h.drop.drop.drop.drop)
end
mutual
def qe(es fs:List af):ae->Prop
 | .mk k g i a v ac cs=>if k=1\/k=2 then es.filter (bw (bO (.mk k g i a v ac cs)))=fs.filter (bw (bO (.mk k g i a v ac cs)))else xZ es fs cs
def xZ(es fs:List af):List ae->Prop
 |[]=>True
 |c::cs=>qe es fs c/\xZ es fs cs
end
theorem CB{es fs:List af}{c:ae}(h:es.filter (bw (bO c))=fs.filter (bw (bO c)))(l:List aK.Bind):aN c l es=aN c l fs:=by
 rw[<- mG (es:=es) (p:=bw (bO c)) λe he=>zP he,h,mG λe he=>zP he]
mutual
theorem yp{es fs:List af}:∀(c:ae) (b:List aK.Bind),qe es fs c->jQ es c b=jQ fs c b
 | .mk k g i a v ac cs,b,h=>by
   unfold qe at h
   by_cases hk:k=1\/k=2
   ·rw[if_pos hk]at h
    simp only[jQ]
    rw[CB h b]
    by_cases h1:k=1
    ·rw[if_pos h1,if_pos h1]
    ·rw[if_neg h1,if_neg h1,if_pos (hk.resolve_left h1),if_pos (hk.resolve_left h1)]
   ·rw[if_neg hk]at h
    simp only[jQ]
    rw[if_neg (λe=>hk (.inl e)),if_neg (λe=>hk (.inr e)),if_neg (λe=>hk (.inl e)),if_neg (λe=>hk (.inr e)),JN cs [b] h]
theorem JN{es fs:List af}:∀(cs:List ae) (rows:List (List aK.Bind)),xZ es fs cs->kD es cs rows=kD fs cs rows
 |[],rows,_=>rfl
 |c::cs,rows,h=>by
  unfold xZ at h
  simp only[kD]
  rw[show(λb=>jQ es c b)=(λb=>jQ fs c b)from funext λb=>yp c b h.1]
  exact JN cs _ h.2
end
mutual
theorem Pm{es fs:List af}:∀(c:ae) (b:List aK.Bind) (j:Nat),qe es fs c->cC es c b j=cC fs c b j
 | .mk k g i a v ac cs,b,0,h=>by
   simp only[cC];rw[yp _ b h]
 | .mk k g i a v ac cs,b,j+1,h=>by
   simp only[cC]
   unfold qe at h
   by_cases hk:k=1\/k=2
   ·rw[if_pos hk,if_pos hk]
   ·rw[if_neg hk]at h
    rw[if_neg hk,if_neg hk,Ph cs [b] j h]
theorem Ph{es fs:List af}:∀(cs:List ae) (rows:List (List aK.Bind)) (j:Nat),xZ es fs cs->cL es cs rows j=cL fs cs rows j
 |[],rows,j,_=>rfl
 |c::cs,rows,j,h=>by
  unfold xZ at h
  simp only[cL]
  rw[show(λb=>cC es c b j)=(λb=>cC fs c b j)from funext λb=>Pm c b j h.1,show(λb=>jQ es c b)=(λb=>jQ fs c b)from funext λb=>yp c b h.1,Ph cs _ _ h.2]
end
theorem Cv{es fs:List af}{c:ae}(h:qe es fs c)(ts:List cf):stepT es c ts=stepT fs c ts:=by
 unfold stepT
 by_cases hk:c.kind=1
 ·rw[if_pos hk,if_pos hk]
  congr 1
  funext t
  cases c with|mk k g i a v ac cs=>
  have hk:k=1:=hk
  unfold qe at h
  rw[if_pos (.inl hk)]at h
  rw[CB h]
 ·rw[if_neg hk,if_neg hk]
  congr 1
  funext t
  rw[yp c t.binds h]
theorem GH{es fs:List af}{c:ae}(h:qe es fs c)(ts:List cf)(j:Nat):dZ es c ts j=dZ fs c ts j:=by
 unfold dZ
 rw[show(λt:cf=>cC es c t.binds j)=(λt:cf=>cC fs c t.binds j)from funext λt=>Pm c t.binds j h]
theorem UA{ms:dL}{aG:List Int}{es fs:List af}(h:∀k∈aG,∀x,aL aA cA k ms=some x->es.filter (bw x.2.c)=fs.filter (bw x.2.c)):(∀(c:ae) (a:Nat),lY ms aG a c->qe es fs c):=by
 intro c
 refine ae.ind (Q:=λc=>∀a,lY ms aG a c->qe es fs c) (λc ih a hf=>?_) c
 have hl:∀(l:List ae),(∀d∈l,∀a,lY ms aG a d->qe es fs d)->∀a,yt ms aG a l->xZ es fs l:=by
  intro l
  induction l with
  |nil=>intro _ _ _;unfold xZ;trivial
  |cons d l ih2=>
   intro h1 a h2
   unfold yt at h2
   unfold xZ
   exact⟨h1 d (by simp) _ h2.1,ih2 (λd' hd=>h1 d' (by simp[hd])) _ h2.2⟩
 obtain⟨ha,hf⟩:=(yu ms aG a c).1 hf
 cases c with|mk k g i at' v ac cs=>
 unfold qe
 have EE:(ae.mk k g i at' v ac cs).kind=k:=rfl
 rw[EE]at hf
 by_cases hk:k=1\/k=2
 ·rw[if_pos hk]at hf |-
  obtain⟨x,hx,hc⟩:=hf.1 ha
  have:=h _ (List.getElem_mem ha) x hx
  rw[hc]at this
  exact this
 ·rw[if_neg hk]at hf |-
  exact hl cs (λd hd=>ih d hd) _ hf
theorem HY{α β:Type}{f g:α->List β}{a b:List α}(h:a.Perm b)(hf:∀x,(f x).Perm (g x)):(a.flatMap f).Perm (b.flatMap g):=by
 have h1:∀l:List α,(l.flatMap f).Perm (l.flatMap g):=λl=>by
  induction l with
  |nil=>exact List.Perm.refl _
  |cons x l ih=>rw[List.flatMap_cons,List.flatMap_cons];exact(hf x).append ih
 refine(h1 a).trans ?_
 induction h with
 |nil=>exact List.Perm.refl _
 |cons x _ ih=>rw[List.flatMap_cons,List.flatMap_cons];exact ih.append_left _
 |swap x y l=>
  rw[List.flatMap_cons,List.flatMap_cons,List.flatMap_cons,List.flatMap_cons,<- List.append_assoc,<- List.append_assoc]
  exact List.perm_append_comm.append_right _
 |trans _ _ i1 i2=>exact i1.trans i2
theorem rb{α:Type}{a b:List α}(h:a.Perm b):a.isEmpty=b.isEmpty:=by
 have:=h.length_eq
 cases a<;>cases b<;>simp_all
theorem Cp{a b:List Nat}(h:a.Perm b):a.sum=b.sum:=by
 induction h with
 |nil=>rfl
 |cons x _ ih=>simp[ih]
 |swap x y l=>simp only[List.sum_cons];omega
 |trans _ _ i1 i2=>rw[i1,i2]
theorem qC{es fs:List af}(h:es.Perm fs)(c:ae)(l:List aK.Bind):(aN c l es).Perm (aN c l fs):=h.filterMap _
mutual
theorem yo{es fs:List af}(h:es.Perm fs):∀(c:ae) (b:List aK.Bind),(jQ es c b).Perm (jQ fs c b)
 | .mk k g i a v ac cs,b=>by
   simp only[jQ]
   by_cases h1:k=1
   ·rw[if_pos h1,if_pos h1];exact(qC h _ b).map _
   ·rw[if_neg h1,if_neg h1]
    by_cases h2:k=2
    ·rw[if_pos h2,if_pos h2,rb (qC h _ b)]
    ·rw[if_neg h2,if_neg h2,rb (JM h cs (List.Perm.refl [b]))]
theorem JM{es fs:List af}(h:es.Perm fs):∀(cs:List ae) {r s:List (List aK.Bind)},r.Perm s->(kD es cs r).Perm (kD fs cs s)
 |[],_,_,hr=>by simpa only[kD]using hr
 |c::cs,_,_,hr=>by
  simp only[kD]
  exact JM h cs (HY hr λb=>yo h c b)
end
mutual
theorem Pl{es fs:List af}(h:es.Perm fs):∀(c:ae) (b:List aK.Bind) (j:Nat),cC es c b j=cC fs c b j
 | .mk k g i a v ac cs,b,0=>by simp only[cC];exact(yo h _ b).length_eq
 | .mk k g i a v ac cs,b,j+1=>by
   simp only[cC]
   by_cases hk:k=1\/k=2
   ·rw[if_pos hk,if_pos hk]
   ·rw[if_neg hk,if_neg hk,Io h cs (List.Perm.refl [b]) j]
theorem Io{es fs:List af}(h:es.Perm fs):∀(cs:List ae) {r s:List (List aK.Bind)},r.Perm s->∀j:Nat,cL es cs r j=cL fs cs s j
 |[],_,_,_,_=>rfl
 |c::cs,r,s,hr,j=>by
  simp only[cL]
  by_cases hj:j<aR c
  ·rw[if_pos hj,if_pos hj,show(λb=>cC es c b j)=(λb=>cC fs c b j)from funext λb=>Pl h c b j]
   exact Cp (hr.map _)
  ·rw[if_neg hj,if_neg hj]
   exact Io h cs (HY hr λb=>yo h c b) _
end
theorem Mc{es fs:List af}(h:es.Perm fs)(c:ae){ts us:List cf}(ht:ts.Perm us):(stepT es c ts).Perm (stepT fs c us):=by
 unfold stepT
 by_cases hk:c.kind=1
 ·rw[if_pos hk,if_pos hk]
  exact HY ht λt=>(qC h c t.binds).map _
 ·rw[if_neg hk,if_neg hk,show(λt:cf=> !(jQ es c t.binds).isEmpty)=(λt:cf=> !(jQ fs c t.binds).isEmpty)from funext λt=>by rw[rb (yo h c t.binds)]]
  exact ht.filter _
theorem DH{es fs:List af}(h:es.Perm fs):∀(p:List ae) {ts us:List cf},ts.Perm us->(p.foldl (λts c=>stepT es c ts) ts).Perm (p.foldl (λts c=>stepT fs c ts) us)
 |[],_,_,ht=>ht
 |c::p,_,_,ht=>by simp only[List.foldl_cons];exact DH h p (Mc h c ht)
theorem kX{es fs:List af}(h:es.Perm fs)(p:List ae):(au es p).Perm (au fs p):=DH h p (List.Perm.refl _)
theorem GG{es fs:List af}(h:es.Perm fs)(c:ae){ts us:List cf}(ht:ts.Perm us)(j:Nat):dZ es c ts j=dZ fs c us j:=by
 unfold dZ
 rw[show(λt:cf=>cC es c t.binds j)=(λt:cf=>cC fs c t.binds j)from funext λt=>Pl h c t.binds j]
 exact Cp (ht.map _)
theorem Cu(es:List af)(c:ae)(a b:List cf):stepT es c (a++b)=stepT es c a++stepT es c b:=by
 unfold stepT;split
 ·rw[List.flatMap_append]
 ·rw[List.filter_append]
theorem zQ(es:List af)(c:ae)(a b:List cf)(j:Nat):dZ es c (a++b) j=dZ es c a j+dZ es c b j:=by unfold dZ;rw[List.map_append,List.sum_append]
theorem jI(es:List af)(c:ae)(ts:List cf):dZ es c ts 0=(stepT es c ts).length:=by
 induction ts with
 |nil=>unfold dZ stepT;simp
 |cons t ts ih=>
  have e:t::ts=[t]++ts:=rfl
  rw[e,zQ,Cu,List.length_append,ih]
  congr 1
  unfold dZ stepT
  simp only[List.map_cons,List.map_nil,List.sum_cons,List.sum_nil,Nat.add_zero,pb]
  by_cases hk:c.kind=1
  ·rw[if_pos hk,iQ,if_pos hk];simp
  ·rw[if_neg hk]
   have h1:(jQ es c t.binds).length=if(jQ es c t.binds).isEmpty then 0 else 1:=by
    rw[iQ,if_neg hk]
    split<;>split<;>rfl
   rw[h1,List.filter_cons,List.filter_nil]
   cases(jQ es c t.binds).isEmpty<;>rfl
@[reducible] def jv(k:Nat):List PV:=[pI ((k:Nat):Int)]
structure oc where
 c:ae
 fa:Fl
 fv:Fl
 fc:Fl
 ka:Option Addr
 kn:Nat
 kc:Nat
 fm:Fl
 aG:List Int
 ft:Fl
 dH:List cf
 fk:Fl
 EH:List Nat
 ends:Int
 ff:Fl
 fr:List cf
 fq:Fl
 mn:List Nat
@[reducible] def oc.pv(x:oc):List PV:=[pI x.c.kind,pB x.c.goal,pS x.c.id,.list 6 x.fa (x.c.attr.map Test.pv),.list 6 x.fv (x.c.value.map Test.pv),pB x.c.acc,.list 7 x.fc (x.c.conds.map ae.pv),.raw (.slice x.ka x.kn x.kc),.list 1 x.fm (x.aG.map gz),.list 2 x.ft (x.dH.map cf.pv),.list 1 x.fk (x.EH.map jv),pI x.ends,.list 2 x.ff (x.fr.map cf.pv),.list 1 x.fq (x.mn.map jv)]
def je(es:List af)(c:ae)(ts:List cf):List Nat:=(List.range (aR c)).map λj=>dZ es c ts j
theorem UP(es:List af)(c:ae)(j:Nat):dZ es c [] j=0:=rfl
theorem GF(es:List af)(c:ae){ts:List cf}{k:Nat}(hk:k<ts.length)(j:Nat):dZ es c (ts.take (k+1)) j=dZ es c (ts.take k) j+cC es c ts[k].binds j:=by
 rw[List.take_add_one,List.getElem?_eq_getElem hk,zQ]
 simp[dZ]
theorem Yo(es:List af)(c:ae)(ts:List cf)(k j:Nat):dZ es c (ts.take k) j<=dZ es c ts j:=by
 have:=zQ es c (ts.take k) (ts.drop k) j
 rw[List.take_append_drop]at this
 omega
theorem Ma(es:List af)(c:ae){ts:List cf}{k:Nat}(hk:k<ts.length):stepT es c (ts.take (k+1))=stepT es c (ts.take k)++stepT es c [ts[k]]:=by
 rw[List.take_add_one,List.getElem?_eq_getElem hk,Cu];rfl
theorem PF{es:List af}{c:ae}(h:c.kind=1)(t:cf):stepT es c [t]=(aN c t.binds es).map λx=>⟨t.tags++[x.1.tag],x.2⟩:=by
 unfold stepT;rw[if_pos h];simp
theorem PG{es:List af}{c:ae}(h:¬c.kind=1)(t:cf):stepT es c [t]=if(jQ es c t.binds).isEmpty then[]else[t]:=by
 unfold stepT;rw[if_neg h,List.filter_cons,List.filter_nil]
 cases(jQ es c t.binds).isEmpty<;>rfl
theorem KQ(es:List af)(c:ae)(ts:List cf){j:Nat}(h:aR c<=j):dZ es c ts j=0:=by
 unfold dZ
 induction ts with
 |nil=>rfl
 |cons b ts ih=>rw[List.map_cons,List.sum_cons,ih,Vy es c _ h]
theorem aay{ts:List cf}{k:Nat}(hk:k<ts.length):(ts.map cf.pv)[Int.toNat (k:Int)]?=some (cf.pv ts[k]):=aw hk
theorem Yp(N:Nat)(cv:Nat->Nat):br ((List.range N).map λi=>[pI ((cv i:Nat):Int)]).flatten=true:=by
 rw[br,List.all_eq_true]
 intro p hp
 obtain⟨r,hr,hp⟩:=List.mem_flatten.1 hp
 obtain⟨i,_,rfl⟩:=List.mem_map.1 hr
 simp only[List.mem_singleton]at hp;subst hp;rfl
section
variable {n:Nat} {x:NC} {es:List af} {ms:dL} {ids:pt}
theorem Pa(hA:eC es ms)(hI:kJ es ids)(hT:0<=x.T/\x.T<=1000000){xb:Nat}(d:oc)(aO:vC d.c)(hs:aR d.c<=100)(vZ:lY ms d.aG 0 d.c)(hN:d.aG.length=aR d.c)(ahead:List cf)(fl:Fl)(hal:ahead.length<=1000001)(uk:∀t∈ahead,t.binds.length<=800000/\t.tags.length<=100000)
  {L:List aY} {μ:Mem} (hO:Ow (an n x es ms ids::Pt xb 156 d.pv::L) μ) {K:Kq}
  (h1:(∀j,((dZ es d.c ahead j:Nat):Int)<=x.T)->∀f μ',Ow (an n x es ms ids::Pt xb 156 d.pv::L) μ'->K (.aD [.list 2 f ((stepT es d.c ahead).map cf.pv),.list 1 .sh ((je es d.c ahead).map jv),pB true]) μ')
  (h0:(∃j,x.T<((dZ es d.c ahead j:Nat):Int))->∀μ',Ow (an n x es ms ids::Pt xb 156 d.pv::L) μ'->K (.aD [.list 2 .nil [],.list 1 .sh [],pB false]) μ'):
  aa prog 105 [pP n 0,pP xb 0,.list 2 fl (ahead.map cf.pv)] μ K:=by
 have MN:1<=aR d.c:=by rw[bM];omega
 obtain⟨hT0,hT1⟩:=hT
 refine aa.ajW (K:=λv μ'=>((∀j,((dZ es d.c ahead j:Nat):Int)<=x.T)/\∃f a c,v=.aD [.list 2 f ((stepT es d.c ahead).map cf.pv),.raw (.slice a (aR d.c) c),pB true]/\Ow (iW 3 1 (.raw (.slice a (aR d.c) c)) ((List.range (aR d.c)).map λi=>[pI ((dZ es d.c ahead i:Nat):Int)])::an n x es ms ids::Pt xb 156 d.pv::L) μ')\/
  ((∃j,x.T<((dZ es d.c ahead j:Nat):Int))/\v=.aD [.list 2 .nil [],.raw (.slice none 0 0),pB false]/\Ow (an n x es ms ids::Pt xb 156 d.pv::L) μ')) ?_ ?_
 ·refine yM.c λb6 HR b7 rT b8 uj=>?_
  have O1:=((hO.new 154 [.list 2 .nil []] HR).new 45 [.raw (.slice none 0 0)] rT).new 4 [pB false] uj
  have afl:List.flatten (List.replicate (aR d.c) [pI 0])=((List.range (aR d.c)).map λi=>[pI (((λ_=>0:Nat->Nat) i:Nat):Int)]).flatten:=by
   congr 1
   refine List.ext_getElem (by simp) λi h1 h2=>?_
   simp
  have fin:∀{b9 w Cc:Nat} {u:Mem},Ow (Pt w 266 (WC.mk n d.fm d.aG (some ⟨Cc,0,none⟩) (aR d.c) (aR d.c)).pv::Pt Cc 3 (List.flatten (List.replicate (aR d.c) [pI 0]))::an n x es ms ids::Pt xb 156 d.pv::Pt b9 264 [pP w 0]::Pt b8 4 [pB false]::Pt b7 45 [.raw (.slice none 0 0)]::Pt b6 154 [.list 2 .nil []]::L) u->
    Ow (Pt w 266 (WC.mk n d.fm d.aG (some ⟨Cc,0,none⟩) (aR d.c) (aR d.c)).pv::fV (WC.mk n d.fm d.aG (some ⟨Cc,0,none⟩) (aR d.c) (aR d.c)) (λ_=>0)::an n x es ms ids::Pt xb 156 d.pv::Pt b9 264 [pP w 0]::Pt b8 4 [pB false]::Pt b7 45 [.raw (.slice none 0 0)]::Pt b6 154 [.list 2 .nil []]::L) u:=λ{b9 w Cc u} h=>by
   rw[afl]at h
   refine h.tail λ_ h2=>?_
   have h3:=Ow.ahB (sz:=1) h2
   rw[List.length_map,List.length_range]at h3
   exact h3
  refine⟨λs u=>∃b9 w Cc,s=some ⟨b9,0,none⟩/\Ow (Pt w 266 (WC.mk n d.fm d.aG (some ⟨Cc,0,none⟩) (aR d.c) (aR d.c)).pv::fV (WC.mk n d.fm d.aG (some ⟨Cc,0,none⟩) (aR d.c) (aR d.c)) (λ_=>0)::an n x es ms ids::Pt xb 156 d.pv::Pt b9 264 [pP w 0]::Pt b8 4 [pB false]::Pt b7 45 [.raw (.slice none 0 0)]::Pt b6 154 [.list 2 .nil []]::L) u,?_,?_⟩
  ·refine⟨_,_,O1.rd 4 rfl (by simp),_,_,O1.rd 4 rfl (by simp),?_⟩
   rw[show Int.toNat (((d.aG.map gz).length:Nat):Int)=aR d.c from by simp[hN],show(((d.aG.map gz).length:Nat):Int)=((aR d.c:Nat):Int)from by simp[hN]]
   refine⟨⟨by omega,by omega,by omega,by omega,λCc Yb=>⟨λb29 MX b9 hb9=>?_,λb9 hb9 b29 MX=>?_⟩⟩,λb9 hb9=>⟨by omega,by omega,by omega,by omega,λCc Yb b29 MX=>?_⟩⟩
   ·refine(((O1.new _ _ Yb).new _ _ MX).new _ _ hb9).st 0 rfl (by simp) λu h=>⟨b9,b29,Cc,rfl,fin ?_⟩
    exact Ow.ord [1,1,4,4,0] h
   ·refine(((O1.new _ _ Yb).new _ _ hb9).new _ _ MX).st 1 rfl (by simp) λu h=>⟨b9,b29,Cc,rfl,fin ?_⟩
    exact Ow.ord [0,1,4,4,0] h
   ·refine(((O1.new _ _ hb9).new _ _ Yb).new _ _ MX).st 2 rfl (by simp) λu h=>⟨b9,b29,Cc,rfl,fin ?_⟩
    exact Ow.ord [0,0,4,4,0] h
  ·rintro s u ⟨b9,w,Cc,rfl,jd⟩ YK ajr
   generalize hW:WC.mk n d.fm d.aG (some ⟨Cc,0,none⟩) (aR d.c) (aR d.c)=W at jd
   have hWn:W.n=n:=by rw[<- hW]
   have hWm:W.aG=d.aG:=by rw[<- hW]
   have hWN:W.N=aR d.c:=by rw[<- hW]
   have hWc:W.pv=[pP n 0,.list 1 d.fm (d.aG.map gz),.raw (.slice (some ⟨Cc,0,none⟩) (aR d.c) (aR d.c))]:=by rw[<- hW]
   have abW:∀cv,fV W cv=iW 3 1 (.raw (.slice (some ⟨Cc,0,none⟩) (aR d.c) (aR d.c))) ((List.range (aR d.c)).map λi=>[pI ((cv i:Nat):Int)]):=λcv=>by rw[<- hW];rfl
   rw[<- hWn]at jd |-
   have O3:=Ow.ord [1,1,1,0] (lU.new (jd.new 154 [.list 2 .nil []] ajr))
   have O3:Ow (Pt w 266 W.pv::fV W (λ_=>0)::an W.n x es ms ids::lU YK 154 2 []::Pt xb 156 d.pv::Pt b9 264 [pP w 0]::Pt b8 4 [pB false]::Pt b7 45 [.raw (.slice none 0 0)]::Pt b6 154 [.list 2 .nil []]::L) _:=O3
   refine ak.each (n:=ahead.length) (by omega) (λk u=>(∀j,((dZ es d.c (ahead.take k) j:Nat):Int)<=x.T)/\Ow (Pt w 266 W.pv::fV W (λj=>dZ es d.c (ahead.take k) j)::an W.n x es ms ids::lU YK 154 2 ((stepT es d.c (ahead.take k)).map cf.pv)::Pt xb 156 d.pv::Pt b9 264 [pP w 0]::Pt b8 4 [pB false]::Pt b7 45 [.raw (.slice none 0 0)]::Pt b6 154 [.list 2 .nil []]::L) u) ⟨λj=>by rw[List.take_zero,UP];exact hT0,?_⟩ ?_ ?_
   ·have e:stepT es d.c (ahead.take 0)=[]:=by unfold stepT;split<;>simp
    rw[e];exact O3
   ·rintro k u1 next hk ⟨hD,zI⟩ ar
    obtain⟨htb,htt⟩:=uk _ (List.getElem_mem hk)
    generalize hDf:(λj=>dZ es d.c (ahead.take k) j)=D at zI
    have QJ:∀j,dZ es d.c (ahead.take k) j=D j:=λj=>by rw[<- hDf]
    simp only[QJ]at hD
    have hFl:(((stepT es d.c (ahead.take k)).length:Nat):Int)<=x.T:=by
     have h2:=hD 0
     rw[<- QJ 0,jI]at h2;exact h2
    have eT:∀u',(∀j,((D j+cC es d.c ahead[k].binds j:Nat):Int)<=x.T)->Ow (Pt w 266 W.pv::fV W (λj=>D j+cC es d.c ahead[k].binds j)::an W.n x es ms ids::lU YK 154 2 ((stepT es d.c (ahead.take k)).map cf.pv++(stepT es d.c [ahead[k]]).map cf.pv)::Pt xb 156 d.pv::Pt b9 264 [pP w 0]::Pt b8 4 [pB false]::Pt b7 45 [.raw (.slice none 0 0)]::Pt b6 154 [.list 2 .nil []]::L) u'->next (IntKind.wrap .i64 ((k:Int)+1)) u':=λu' h2 h3=>by
     have e:(λj=>D j+cC es d.c ahead[k].binds j)=λj=>dZ es d.c (ahead.take (k+1)) j:=by
      funext j;rw[GF es d.c hk,QJ]
     refine ar u' ⟨λj=>?_,?_⟩
     ·rw[<- congrFun e j];exact h2 j
     ·rw[<- e,Ma es d.c hk,List.map_append];exact h3
    have DA:(∃q,x.T<((D q+cC es d.c ahead[k].binds q:Nat):Int))->∃j,x.T<((dZ es d.c ahead j:Nat):Int):=λ⟨q,hq⟩=>⟨q,by
     have h2:=Yo es d.c ahead (k+1) q
     rw[GF es d.c hk,QJ]at h2
     omega⟩
    refine ab.t (by simpa using hk) ⟨by omega,_,aay hk,_,_,_,_,rfl,λb12 ajp=>?_⟩
    refine(zI.new 193 [.list 1 .nil [],.list 4 .nil []] ajp).st 0 rfl (by simp) λu5 h5=>?_
    have oz:Ow (Pt w 266 W.pv::fV W D::an W.n x es ms ids::lU YK 154 2 ((stepT es d.c (ahead.take k)).map cf.pv)::Pt b12 193 (cf.pv ahead[k])::Pt xb 156 d.pv::Pt b9 264 [pP w 0]::Pt b8 4 [pB false]::Pt b7 45 [.raw (.slice none 0 0)]::Pt b6 154 [.list 2 .nil []]::L) u5:=Ow.ord [1,1,1,1,0] h5
    refine⟨_,oz.rd 5 rfl (by simp),ab.mk (λjw=>?_) (λjw=>?_)⟩
    ·have sO:d.c.kind=1:=by simpa using jw
     obtain⟨iV,Uk,OP⟩:=(oO _).1 aO
     obtain⟨MY,HP⟩:=(yu ms d.aG 0 d.c).1 vZ
     rw[if_pos (.inl sO)]at HP
     have hco:Ez d.c:=⟨iV,Uk (.inl sO)⟩
     refine⟨_,_,_,_,_,_,_,_,_,_,oz.rd 5 rfl (by simp),_,_,_,_,_,_,_,_,_,_,oz.rd 5 rfl (by simp),_,_,oz.rd 4 rfl (by simp),_,_,oz.rd 5 rfl (by simp),by omega,_,vK MY,_,rfl,_,_,oz.rd 4 rfl (by simp),?_⟩
     refine Ik (an.qz (x:=x) (es:=es) (ms:=ms) (ids:=ids) oz (by simp)) d.c _ _ _ _ ahead[k].binds (by omega) d.aG[0] ?_
     obtain⟨fe,ga,gb,hf⟩:=zd W.n x.al d.aG[0] (iw ahead[k].binds d.c.id)
     rw[hf]
     refine⟨_,_,_,rfl,?_⟩
     rw[Mem.oM]
     refine(Vb fe ga gb d.c _ _ _ _ ahead[k].binds (by omega)).call ⟨_,_,_,rfl,?_⟩
     have y_:jQ es d.c ahead[k].binds=(aN d.c ahead[k].binds es).map (·.2):=by rw[iQ,if_pos sO]
     have Ku:cC es d.c ahead[k].binds 0=(aN d.c ahead[k].binds es).length:=by rw[pb,y_,List.length_map]
     have mR:∀j,cC es d.c ahead[k].binds (j+1)=0:=λj=>zY _ (.inl sO) j
     have gV:=PF (es:=es) sO ahead[k]
     refine bk.own (zo hA hI hco (HP.1 MY) (by omega) hf) (Ow.at 2 rfl oz)
      (λm u=>(((D 0+m:Nat):Int)<=x.T)/\Ow (Pt w 266 W.pv::fV W (oG D 0 (D 0+m))::an W.n x es ms ids::lU YK 154 2 ((stepT es d.c (ahead.take k)).map cf.pv++((stepT es d.c [ahead[k]]).take m).map cf.pv)::Pt b12 193 (cf.pv ahead[k])::Pt xb 156 d.pv::Pt b9 264 [pP w 0]::Pt b8 4 [pB false]::Pt b7 45 [.raw (.slice none 0 0)]::Pt b6 154 [.list 2 .nil []]::L) u)
      (λcd u=>cd=.ret/\(∃q,x.T<((D q+cC es d.c ahead[k].binds q:Nat):Int))/\∃rV rs,Ow (Pt w 266 W.pv::fV W rV::an W.n x es ms ids::lU YK 154 2 rs::Pt b12 193 (cf.pv ahead[k])::Pt xb 156 d.pv::Pt b9 264 [pP w 0]::Pt b8 4 [pB false]::Pt b7 45 [.raw (.slice none 0 0)]::Pt b6 154 [.list 2 .nil []]::L) u)
      (λm=>fJ.and (fJ.own _)) (λcd=>fJ.and (fJ.and (fJ.ex λ_=>fJ.ex λ_=>fJ.own _))) (λμ' h'=>⟨by simpa using hD 0,?_⟩) ?_ ?_ ?_
     ·have e:oG D 0 (D 0+0)=D:=by funext j;unfold oG;split<;>simp_all
      rw[e,List.take_zero,List.map_nil,List.append_nil]
      exact Ow.ord [1,1,0] h'
     ·rintro m hm u2 R ⟨hDm,Kw⟩ bU kg
      have uY:m<(aN d.c ahead[k].binds es).length:=by simpa using hm
      have uX:m<(stepT es d.c [ahead[k]]).length:=by rw[gV,List.length_map];exact uY
      rw[List.getElem_map]
      refine⟨_,_,_,_,_,_,_,_,_,_,_,_,_,_,rfl,_,Kw.rd 6 rfl (by simp),?_⟩
      refine yC Kw 0 (by omega) (by unfold oG;rw[if_pos rfl];omega) λu3 h3=>⟨_,rfl,?_⟩
      have eu:oG (oG D 0 (D 0+m)) 0 (oG D 0 (D 0+m) 0+1)=oG D 0 (D 0+(m+1)):=by
       funext j;unfold oG;by_cases e:j=0
       ·simp[e];omega
       ·simp[e]
      have ev:oG D 0 (D 0+m) 0=D 0+m:=by unfold oG;simp
      rw[eu]at h3
      rw[ev]
      refine ab.mk (λcm=>?_) (λEX=>?_)
      ·have TU:x.T<((D 0+m+1:Nat):Int):=by simpa using cm
       refine h3.st 9 rfl (by simp) λu4 h4=>h4.st 8 rfl (by simp) λu5 h5=>h5.st 7 rfl (by simp) λu6 h6=>kg _ _ ⟨rfl,⟨0,?_⟩,_,_,h6⟩
       rw[Ku];omega
      ·have Kb:((D 0+m+1:Nat):Int)<=x.T:=by simpa using EX
       obtain⟨f,ho⟩:=lU.open_ 3 h3 rfl
       have hlen:((stepT es d.c (ahead.take k)).map cf.pv++((stepT es d.c [ahead[k]]).take m).map cf.pv).length<=2000000:=by
        rw[List.length_append,List.length_map,List.length_map,List.length_take];omega
       refine⟨_,_,ho.rd 0 rfl (by simp),_,_,ho.rd 5 rfl (by simp),_,_,ho.rd 5 rfl (by simp),_,_,ho.rd 5 rfl (by simp),by omega,by omega,by omega,rfl,?_⟩
       refine Ow.acD ho (by simp;omega) (by simp;omega) λf1 u4 h4=>?_
       refine Ow.app h4.swap rfl (by simp only[List.length_cons,List.length_nil];omega) (by simp only[List.length_cons,List.length_nil];omega) λf2 u5 h5=>h5.st 1 rfl (by simp) λu6 h6=>bU _ ⟨by omega,?_⟩
       have e2:(stepT es d.c (ahead.take k)).map cf.pv++((stepT es d.c [ahead[k]]).take (m+1)).map cf.pv=((stepT es d.c (ahead.take k)).map cf.pv++((stepT es d.c [ahead[k]]).take m).map cf.pv)++[[.list 1 .sh (List.drop (Int.toNat 0) (List.take (Int.toNat (((ahead[k].tags.map λx=>[pI x]).length:Nat):Int)) (ahead[k].tags.map λx=>[pI x]))++[[pI (aN d.c ahead[k].binds es)[m].1.tag]]),.list 4 .sh ((aN d.c ahead[k].binds es)[m].2.map Bind.pv)]]:=by
        rw[dT uX,List.append_assoc]
        congr 2
        have e3:(stepT es d.c [ahead[k]])[m]=⟨ahead[k].tags++[(aN d.c ahead[k].binds es)[m].1.tag],(aN d.c ahead[k].binds es)[m].2⟩:=by
         simp only[gV,List.getElem_map]
        rw[e3]
        have e4:List.take ahead[k].tags.length (ahead[k].tags.map λx=>[pI x])=ahead[k].tags.map λx=>[pI x]:=List.take_of_length_le (by simp)
        simp[e4]
       rw[e2]
       have h7:=Ow.ord [1,1,1,0] (lU.shut h6 (by simp only[List.length_append,List.length_cons,List.length_nil]))
       exact h7
     ·rintro u2 ⟨hDm,Kw⟩
      rw[List.length_map]at hDm Kw
      dsimp only[PK]
      have hfn:oG D 0 (D 0+(aN d.c ahead[k].binds es).length)=λj=>D j+cC es d.c ahead[k].binds j:=by
       funext j
       unfold oG
       cases j with
       |zero=>rw[if_pos rfl,Ku]
       |succ j=>rw[if_neg (by omega),mR];rfl
      refine eT u2 (λj=>?_) ?_
      ·rw[<- congrFun hfn j]
       unfold oG
       split
       ·exact hDm
       ·exact hD j
      ·rw[<- hfn]
       have hl:(aN d.c ahead[k].binds es).length=(stepT es d.c [ahead[k]]).length:=by rw[gV,List.length_map]
       rw[hl,List.take_length]at Kw
       rw[hl]
       exact Ow.drop (Ow.ord [4] Kw)
     ·rintro cd u2 ⟨rfl,hq,rV,rs,Kw⟩
      dsimp only[PK]
      refine⟨_,_,Kw.rd 9 rfl (by simp),_,_,_,Kw.rd 8 rfl (by simp),_,Kw.rd 7 rfl (by simp),?_⟩
      exact .inr ⟨DA hq,rfl,Ow.ord [0,2] (Ow.drop (Ow.drop Kw)) |> λh=>(Ow.tail h λ_ h=>h.tail λ_ h=>h.drop.drop.drop.drop.drop.drop)⟩
    ·have sO:¬d.c.kind=1:=by simpa using jw
     have gV:=PG (es:=es) sO ahead[k]
     have hon:kD es [d.c] [ahead[k].binds]=jQ es d.c ahead[k].binds:=by simp[kD]
     have iV:∀j,sh 0 (cL es [d.c] [ahead[k].binds]) j=cC es d.c ahead[k].binds j:=λj=>by rw[Hd,Vo];simp[eh]
     refine⟨_,oz.rd 6 rfl (by simp),_,_,_,_,_,_,_,_,_,_,oz.rd 5 rfl (by simp),_,_,oz.rd 4 rfl (by simp),?_⟩
     have e1:[[pI d.c.kind,pB d.c.goal,pS d.c.id,.list 6 .sh (d.c.attr.map Test.pv),.list 6 .sh (d.c.value.map Test.pv),pB d.c.acc,.list 7 .sh (d.c.conds.map ae.pv)]]=[d.c].map ae.pv:=by rw[List.map_cons,List.map_nil,ae.cP]
     rw[e1]
     have aeO:aj [d.c]=aR d.c:=by simp[aj]
     refine cOn (W:=W) hA hI ⟨hT0,hT1⟩ (by rw[hWm,hWN,hN]) (aj [d.c]) [d.c] .nr .sh ahead[k].binds 0 D (Nat.le_refl _) ⟨aO,trivial⟩ ⟨by rw[hWm];exact vZ,trivial⟩ (by omega) hD (by omega) oz (λhE fr2 u2 Kw=>⟨_,_,_,rfl,ab.f rfl ?_⟩) (λ⟨q,hq⟩ rV u2 Kw=>⟨_,_,_,rfl,ab.t rfl ?_⟩)
     ·simp only[iV]at hE Kw
      rw[hon,jG]
      refine ab.mk (λlM=>?_) (λlM=>?_)
      ·have hz:(jQ es d.c ahead[k].binds).isEmpty=false:=by
        have aT:0<(jQ es d.c ahead[k].binds).length:=by simpa using lM
        cases hx:jQ es d.c ahead[k].binds with
        |nil=>rw[hx]at aT;simp at aT
        |cons y ys=>rfl
       rw[hz]at gV
       obtain⟨f,ho⟩:=lU.open_ 3 Kw rfl
       refine⟨_,_,ho.rd 0 rfl (by simp),_,_,_,_,ho.rd 5 rfl (by simp),?_⟩
       refine Ow.app ho.swap rfl (by simp only[List.length_cons,List.length_nil,List.length_map];omega) (by simp only[List.length_cons,List.length_nil,List.length_map];omega) λf2 u5 h5=>h5.st 1 rfl (by simp) λu6 h6=>eT _ hE ?_
       rw[gV]
       have h7:=Ow.ord [1,1,1,0] (lU.shut h6 (by simp;done))
       exact Ow.drop (Ow.ord [4] h7)
      ·have hz:(jQ es d.c ahead[k].binds).isEmpty=true:=by
        have aT:(jQ es d.c ahead[k].binds).length=0:=by simpa using lM
        rw[List.isEmpty_iff];exact List.eq_nil_of_length_eq_zero aT
       rw[hz]at gV
       refine eT _ hE ?_
       rw[gV]
       simp only[if_true,List.map_nil,List.append_nil]
       exact Ow.drop (Ow.ord [4] Kw)
     ·rw[iV]at hq
      refine Kw.st 9 rfl (by simp) λu4 h4=>h4.st 8 rfl (by simp) λu5 h5=>h5.st 7 rfl (by simp) λu6 h6=>?_
      refine⟨_,_,h6.rd 9 rfl (by simp[dN]),_,_,_,h6.rd 8 rfl (by simp[dN]),_,h6.rd 7 rfl (by simp[dN]),?_⟩
      exact .inr ⟨DA ⟨q,hq⟩,rfl,Ow.ord [0,2] (Ow.drop (Ow.drop h6)) |> λh=>(Ow.tail h λ_ h=>h.tail λ_ h=>h.drop.drop.drop.drop.drop.drop)⟩
   ·rintro u1 next ⟨hD,zI⟩
    refine ab.f (by simp) ?_
    rw[List.take_length]at hD zI
    obtain⟨f,oz⟩:=lU.end_ 3 zI rfl
    have oz:Ow (Pt w 266 W.pv::fV W (λj=>dZ es d.c ahead j)::an W.n x es ms ids::Pt YK 154 [.list 2 f ((stepT es d.c ahead).map cf.pv)]::Pt xb 156 d.pv::Pt b9 264 [pP w 0]::Pt b8 4 [pB false]::Pt b7 45 [.raw (.slice none 0 0)]::Pt b6 154 [.list 2 .nil []]::L) u1:=oz
    have key:∀u',Ow (Pt w 266 W.pv::fV W (λj=>dZ es d.c ahead j)::an W.n x es ms ids::Pt YK 154 [.list 2 f ((stepT es d.c ahead).map cf.pv)]::Pt xb 156 d.pv::Pt b9 264 [pP w 0]::Pt b8 4 [pB true]::Pt b7 45 [.raw (.slice W.a W.N W.c)]::Pt b6 154 [.list 2 f ((stepT es d.c ahead).map cf.pv)]::L) u'->
      ∃a c,aB u' b6 0 1=some [.list 2 f ((stepT es d.c ahead).map cf.pv)]/\aB u' b7 0 1=some [.raw (.slice a (aR d.c) c)]/\aB u' b8 0 1=some [pB true]/\Ow (iW 3 1 (.raw (.slice a (aR d.c) c)) ((List.range (aR d.c)).map λi=>[pI ((dZ es d.c ahead i:Nat):Int)])::an W.n x es ms ids::Pt xb 156 d.pv::L) u':=λu' h7=>by
     have h8:Ow (fV W (λj=>dZ es d.c ahead j)::an W.n x es ms ids::Pt xb 156 d.pv::L) u':=(Ow.ord [0,0,1] h7.drop).tail λ_ h=>h.tail λ_ h=>h.tail λ_ h=>h.drop.drop.drop.drop.drop
     rw[abW]at h8
     refine⟨some ⟨Cc,0,none⟩,aR d.c,h7.rd 8 rfl (by simp),?_,h7.rd 6 rfl (by simp),h8⟩
     have h9:=h7.rd 7 (o:=0) (n:=1) rfl (by simp)
     subst hW
     exact h9
    refine⟨_,_,oz.rd 3 rfl (by simp),⟨_,oz.rd 5 rfl (by simp),⟨_,_,_,oz.rd 0 rfl (by simp),oz.st 8 rfl (by simp) λu2 h2=>⟨h2.st 7 rfl (by simp) λu3 h3=>⟨h3.st 6 rfl (by simp) λu4 h4=>(let ⟨a,c,r1,r2,r3,hv⟩:=key _ h4;⟨_,_,r1,_,_,_,r2,_,r3,.inl ⟨hD,f,a,c,rfl,hv⟩⟩),trivial⟩,trivial⟩,trivial⟩,oz.st 8 rfl (by simp) λu2 h2=>⟨_,_,_,h2.rd 0 rfl (by simp),h2.st 7 rfl (by simp) λu3 h3=>⟨h3.st 6 rfl (by simp) λu4 h4=>(let ⟨a,c,r1,r2,r3,hv⟩:=key _ h4;⟨_,_,r1,_,_,_,r2,_,r3,.inl ⟨hD,f,a,c,rfl,hv⟩⟩),trivial⟩,trivial⟩,trivial⟩,oz.st 8 rfl (by simp) λu2 h2=>⟨_,h2.rd 5 rfl (by simp),_,_,_,h2.rd 0 rfl (by simp),h2.st 7 rfl (by simp) λu3 h3=>⟨h3.st 6 rfl (by simp) λu4 h4=>(let ⟨a,c,r1,r2,r3,hv⟩:=key _ h4;⟨_,_,r1,_,_,_,r2,_,r3,.inl ⟨hD,f,a,c,rfl,hv⟩⟩),trivial⟩,trivial⟩,trivial⟩
 ·rintro v μ' (⟨hc,f,a,c,rfl,h⟩|⟨hc,rfl,h⟩)
  ·obtain⟨pf,bs,h2,h3,hb⟩:=iW.frz h (zR _ _) (Yp _ _)
   have e:((List.range (aR d.c)).map λi=>[pI ((dZ es d.c ahead i:Nat):Int)])=(je es d.c ahead).map jv:=by unfold je;rw[List.map_map];rfl
   rw[e]at hb
   refine⟨_,pf,bs,mi.aD (ds:=[.list 2 f ((stepT es d.c ahead).map cf.pv),.list 1 .sh ((je es d.c ahead).map jv),pB true]) rfl (by simp[PV.ok,PV.cell]) (λi p q hp hq=>?_),h2,h1 hc f pf h3⟩
   match i with
   |0=>cases hp;cases hq;exact .same _
   |1=>cases hp;cases hq;exact hb
   |2=>cases hp;cases hq;exact .same _
   |i+3=>simp at hp
  ·refine⟨_,μ',[],mi.aD (ds:=[.list 2 .nil [],.list 1 .sh [],pB false]) rfl (by simp[PV.ok,PV.cell]) (λi p q hp hq=>?_),λb o h=>⟨h,by simp⟩,h0 hc μ' h⟩
   match i with
   |0=>cases hp;cases hq;exact .same _
   |1=>cases hp;cases hq;exact .Xw none 0 1 (.inl rfl)
   |2=>cases hp;cases hq;exact .same _
   |i+3=>simp at hp
end
theorem nV{ms:dL}(hu:ca aA cA ms)(y:Int×fM)(k:Int):aL aA cA k (bc aA cA y ms)=if k=y.1 then some y else aL aA cA k ms:=by
 by_cases e:k=y.1
 ·rw[if_pos e]
  exact(aM ax (hu.ins ax y)).2 ⟨(bj ax).2 (.inl rfl),e.symm⟩
 ·rw[if_neg e]
  cases hg:aL aA cA k ms with
  |some x=>
   obtain⟨h1,h2⟩:=(aM ax hu).1 hg
   refine(aM ax (hu.ins ax y)).2 ⟨(bj ax).2 (.inr ⟨h1,λh=>e ?_⟩),h2⟩
   exact h2.symm.trans h
  |none=>
   refine(bx ax).2 λx hx h=>?_
   rcases(bj ax).1 hx with rfl|⟨h1,_⟩
   ·exact e h.symm
   ·exact(bx ax).1 hg x h1 h
theorem KB{ms:dL}(hu:ca aA cA ms)(j k:Int):aL aA cA k (bq aA cA j ms)=if k=j then none else aL aA cA k ms:=by
 by_cases e:k=j
 ·rw[if_pos e]
  exact(bx ax).2 λx hx h=>((eF ax).1 hx).2 (h.trans e)
 ·rw[if_neg e]
  cases hg:aL aA cA k ms with
  |some x=>
   obtain⟨h1,h2⟩:=(aM ax hu).1 hg
   exact(aM ax (hu.del j)).2 ⟨(eF ax).2 ⟨h1,λh=>e (h2.symm.trans h)⟩,h2⟩
  |none=>exact(bx ax).2 λx hx h=>(bx ax).1 hg x ((eF ax).1 hx).1 h
def gT(k:Int)(ms:dL):Int:=((aL aA cA k ms).map λx=>x.2.aU).getD 0
theorem vk{ms:dL}(hu:ca aA cA ms)(y:Int×fM)(k:Int):gT k (bc aA cA y ms)=if k=y.1 then y.2.aU else gT k ms:=by
 unfold gT;rw[nV hu];split<;>rfl
theorem LR{ms:dL}(hu:ca aA cA ms)(j k:Int):gT k (bq aA cA j ms)=if k=j then 0 else gT k ms:=by
 unfold gT;rw[KB hu];split<;>rfl
theorem Di:∀{a b:List Int},a.Nodup->(∀x∈a,x∈b)->a.length<=b.length
 |[],_,_,_=>Nat.zero_le _
 |x::a,b,hn,hs=>by
  obtain⟨h1,h2⟩:=List.nodup_cons.1 hn
  have hx:=hs x (by simp)
  have:=Di (b:=b.erase x) h2 λy hy=>(List.mem_erase_of_ne (by rintro rfl;exact h1 hy)).2 (hs y (by simp[hy]))
  rw[List.length_erase_of_mem hx]at this
  have hp:0<b.length:=List.length_pos_of_mem hx
  simp only[List.length_cons];omega
structure gB(es:List af)(ms:dL)(l:List Int):Prop where
 inv:eC es ms
 use:∀k,0<=k->gT k ms=(l.count k:Nat)
theorem gB.len{es:List af}{ms:dL}{l:List Int}(h:gB es ms l):ms.length<=l.length:=by
 have:=Di (a:=ms.map cA) (b:=l) ?_ ?_
 ·simpa using this
 ·have h1:(ms.map cA).Pairwise λa b=>aA a b<0:=by rw[List.pairwise_map];exact h.inv.pJ
  refine h1.imp λ{a b} uk e=>?_
  rw[e]at uk
  exact absurd uk (by rw[ax.self b];omega)
 ·intro k hk
  obtain⟨x,hx,rfl⟩:=List.mem_map.1 hk
  have h2:=h.use (cA x) (h.inv.num x hx).1
  have h3:aL aA cA (cA x) ms=some x:=(aM ax h.inv.pJ).2 ⟨hx,rfl⟩
  unfold gT at h2
  rw[h3]at h2
  have h4:x.2.aU=((l.count (cA x):Nat):Int):=h2
  have h5:=(h.inv.aU x hx).1
  exact List.count_pos_iff.1 (by omega)
theorem gB.us{es:List af}{ms:dL}{l:List Int}(h:gB es ms l):∀x∈ms,x.2.aU<=(l.length:Nat):=λx hx=>by
 have h2:=h.use (cA x) (h.inv.num x hx).1
 have h3:aL aA cA (cA x) ms=some x:=(aM ax h.inv.pJ).2 ⟨hx,rfl⟩
 unfold gT at h2
 rw[h3]at h2
 have h4:x.2.aU=((l.count (cA x):Nat):Int):=h2
 have:=List.count_le_length (a:=cA x) (l:=l)
 omega
theorem gB.as{es:List af}{ms:dL}{l l':List Int}(h:gB es ms l)(e:∀k,0<=k->l.count k=l'.count k):gB es ms l':=⟨h.inv,λk hk=>by rw[h.use k hk,e k hk]⟩
theorem gB.perm{es:List af}{ms:dL}{l l':List Int}(h:gB es ms l)(e:l.Perm l'):gB es ms l':=h.as λk _=>e.count_eq k
def jM(ms dd:dL):Prop:=∀j d,eO ms j d->eO dd j d
theorem jM.refl(ms:dL):jM ms ms:=λ_ _ h=>h
theorem jM.trans{a b c:dL}(h:jM a b)(k:jM b c):jM a c:=λj d hm=>k j d (h j d hm)
theorem wc{ms dd:dL}{aG:List Int}(hk:∀j∈aG,∀d,eO ms j d->eO dd j d):∀(c:ae) (a:Nat),lY ms aG a c->lY dd aG a c:=by
 intro c
 refine ae.ind (Q:=λc=>∀a,lY ms aG a c->lY dd aG a c) (λc ih a hf=>?_) c
 have hl:∀(l:List ae),(∀d∈l,∀a,lY ms aG a d->lY dd aG a d)->∀a,yt ms aG a l->yt dd aG a l:=by
  intro l
  induction l with
  |nil=>intro _ _ _;unfold yt;trivial
  |cons d l ih2=>
   intro h1 a h2
   unfold yt at h2 |-
   exact⟨h1 d (by simp) _ h2.1,ih2 (λd' hd=>h1 d' (by simp[hd])) _ h2.2⟩
 rw[yu]at hf |-
 obtain⟨ha,hf⟩:=hf
 refine⟨ha,?_⟩
 by_cases h:c.kind=1\/c.kind=2
 ·rw[if_pos h]at hf |-
  exact⟨λh'=>hk _ (List.getElem_mem ha) _ (hf.1 ha),hf.2⟩
 ·rw[if_neg h]at hf |-
  exact hl _ ih _ hf
theorem DJ{ms dd:dL}{aG:List Int}(hk:jM ms dd)(c:ae)(a:Nat)(h:lY ms aG a c):lY dd aG a c:=wc (λj _ d=>hk j d) c a h
theorem Yk{ms:dL}{aG:List Int}:∀(c:ae) (a dp:Nat),vC c->(∀(q:Nat) (y:Nat×Nat×ae),(iN c a dp)[q]?=some y->∃h:a+q<aG.length,y.2.2.kind=3\/eO ms aG[a+q] y.2.2)->(∀(q:Nat) (y:Nat×Nat×ae),(iN c a dp)[q]?=some y->y.2.2.kind=3->¬(y.2.2.kind=1\/y.2.2.kind=2))->lY ms aG a c:=by
 intro c
 refine ae.ind (Q:=λc=>∀(a dp:Nat),vC c->(∀(q:Nat) (y:Nat×Nat×ae),(iN c a dp)[q]?=some y->∃h:a+q<aG.length,y.2.2.kind=3\/eO ms aG[a+q] y.2.2)->(∀(q:Nat) (y:Nat×Nat×ae),(iN c a dp)[q]?=some y->y.2.2.kind=3->¬(y.2.2.kind=1\/y.2.2.kind=2))->lY ms aG a c) (λc ih a dp aO hp hx=>?_) c
 have hl:∀(l:List ae),(∀d∈l,∀(a dp:Nat),vC d->(∀(q:Nat) (y:Nat×Nat×ae),(iN d a dp)[q]?=some y->∃h:a+q<aG.length,y.2.2.kind=3\/eO ms aG[a+q] y.2.2)->(∀(q:Nat) (y:Nat×Nat×ae),(iN d a dp)[q]?=some y->y.2.2.kind=3->¬(y.2.2.kind=1\/y.2.2.kind=2))->lY ms aG a d)->∀a dp,ud l->(∀(q:Nat) (y:Nat×Nat×ae),(dI l a dp)[q]?=some y->∃h:a+q<aG.length,y.2.2.kind=3\/eO ms aG[a+q] y.2.2)->(∀(q:Nat) (y:Nat×Nat×ae),(dI l a dp)[q]?=some y->y.2.2.kind=3->¬(y.2.2.kind=1\/y.2.2.kind=2))->yt ms aG a l:=by
  intro l
  induction l with
  |nil=>intro _ _ _ _ _ _;unfold yt;trivial
  |cons d l ih2=>
   intro h1 a dp aO h2 h3
   unfold ud at aO
   unfold yt
   have hlen:=qa d a dp
   refine⟨h1 d (by simp) a dp aO.1 (λq y hy=>h2 q y ?_) (λq y hy=>h3 q y ?_),ih2 (λd' hd=>h1 d' (by simp[hd])) (a+aR d) dp aO.2 (λq y hy=>?_) (λq y hy=>?_)⟩
   ·simp only[dI];rw[List.getElem?_append_left (List.getElem?_eq_some_iff.1 hy).1];exact hy
   ·simp only[dI];rw[List.getElem?_append_left (List.getElem?_eq_some_iff.1 hy).1];exact hy
   ·have:=h2 (aR d+q) y (by simp only[dI];rw[List.getElem?_append_right (by omega),hlen];simpa using hy)
    simpa[Nat.add_assoc]using this
   ·exact h3 (aR d+q) y (by simp only[dI];rw[List.getElem?_append_right (by omega),hlen];simpa using hy)
 rw[Ok]at hp hx
 rw[yu]
 obtain⟨_,Dz,OP⟩:=(oO c).1 aO
 obtain⟨h0,h1⟩:=hp 0 _ rfl
 refine⟨h0,?_⟩
 by_cases h:c.kind=1\/c.kind=2
 ·rw[if_pos h]
  refine⟨λ_=>h1.resolve_left λh3=>hx 0 _ rfl h3 h,Dz h⟩
 ·rw[if_neg h]
  refine hl c.conds ih (a+1) (dp+1) OP (λq y hy=>?_) (λq y hy=>hx (q+1) y (by simpa using hy))
  have:=hp (q+1) y (by simpa using hy)
  simpa[Nat.add_assoc,Nat.add_comm 1]using this
theorem gB.one{es:List af}{ms:dL}{l:List Int}(h:gB es ms l)(hl:l.length<=900000){x:Int×fM}(hx:x∈ms){c:ae}(hc:x.2.c=bO c):
  gB es (bc aA cA (x.1,{x.2 with aU:=x.2.aU+1}) ms) (x.1::l)/\eO (bc aA cA (x.1,{x.2 with aU:=x.2.aU+1}) ms) x.1 c/\jM ms (bc aA cA (x.1,{x.2 with aU:=x.2.aU+1}) ms):=by
 have hu:=h.inv.aU x hx
 have Qw:=h.us x hx
 have hg:aL aA cA x.1 ms=some x:=(aM ax h.inv.pJ).2 ⟨hx,rfl⟩
 refine⟨⟨h.inv.kB hx (x':=(x.1,{x.2 with aU:=x.2.aU+1})) rfl rfl rfl ⟨by show 1<=x.2.aU+1;omega,by show x.2.aU+1<1000000;omega⟩,λk hk=>?_⟩,⟨(x.1,{x.2 with aU:=x.2.aU+1}),by rw[nV h.inv.pJ,if_pos rfl],hc⟩,λj d ⟨y,hy,hd⟩=>?_⟩
 ·rw[vk h.inv.pJ,List.count_cons]
  by_cases e:k=x.1
  ·have h2:=h.use k hk
   unfold gT at h2
   rw[e,hg]at h2
   have h2:x.2.aU=((l.count x.1:Nat):Int):=h2
   rw[if_pos e,e,if_pos (by simp)]
   show x.2.aU+1=_
   omega
  ·rw[if_neg e,if_neg (by simpa using Ne.symm e),h.use k hk];rfl
 ·unfold eO
  rw[nV h.inv.pJ]
  by_cases e:j=x.1
  ·rw[if_pos e]
   rw[e,hg]at hy;cases hy
   exact⟨_,rfl,hd⟩
  ·rw[if_neg e];exact⟨y,hy,hd⟩
theorem gB.new{es:List af}{ms:dL}{l:List Int}(h:gB es ms l)(hl:l.length<=900000){c:ae}(ZH:cr c)(hn:∀x∈ms,x.2.c≠bO c)(b:Nat):
  gB es (bc aA cA (least ms,⟨bO c,1,b,es.filter (bw (bO c))⟩) ms) (least ms::l)/\eO (bc aA cA (least ms,⟨bO c,1,b,es.filter (bw (bO c))⟩) ms) (least ms) c/\jM ms (bc aA cA (least ms,⟨bO c,1,b,es.filter (bw (bO c))⟩) ms):=by
 have hle:=h.len
 obtain⟨hg,hi⟩:=h.inv.new (GO ZH) hn b (by omega)
 refine⟨⟨hi,λk hk=>?_⟩,⟨_,by rw[nV h.inv.pJ,if_pos rfl],rfl⟩,λj d ⟨y,hy,hd⟩=>?_⟩
 ·rw[vk h.inv.pJ,List.count_cons]
  by_cases e:k=least ms
  ·have h2:=h.use k hk
   unfold gT at h2
   rw[e,hg]at h2
   have h2:(0:Int)=((l.count (least ms):Nat):Int):=h2
   rw[if_pos e,e,if_pos (by simp)]
   show(1:Int)=_
   omega
  ·rw[if_neg e,if_neg (by simpa using Ne.symm e),h.use k hk];rfl
 ·unfold eO
  rw[nV h.inv.pJ]
  by_cases e:j=least ms
  ·rw[e,hg]at hy;cases hy
  ·rw[if_neg e];exact⟨y,hy,hd⟩
theorem gB.less{es:List af}{ms:dL}{k:Int}{l l':List Int}(h:gB es ms l)(e:∀j,l.count j=l'.count j+(if j=k then 1 else 0)):gB es (lh k ms) l'/\∀j d,j∈l'->eO ms j d->eO (lh k ms) j d:=by
 refine⟨⟨h.inv.leave k,λj hj=>?_⟩,λj d hj ⟨y,hy,hd⟩=>?_⟩
 ·have h2:=h.use j hj
  have h3:=e j
  unfold lh
  cases hg:aL aA cA k ms with
  |none=>
   dsimp only
   rw[h2]
   by_cases ejk:j=k
   ·rw[if_pos ejk]at h3
    unfold gT at h2
    rw[ejk,hg]at h2
    have h2:(0:Int)=((l.count k:Nat):Int):=h2
    rw[ejk]at h3;omega
   ·rw[if_neg ejk]at h3;omega
  |some x=>
   obtain⟨hx,hxk⟩:=(aM ax h.inv.pJ).1 hg
   dsimp only
   split
   ·rename_i h1
    rw[LR h.inv.pJ]
    by_cases ejk:j=k
    ·rw[if_pos ejk]at h3 |-
     unfold gT at h2
     rw[ejk,hg]at h2
     have h2:x.2.aU=((l.count k:Nat):Int):=h2
     rw[ejk]at h3 |-;omega
    ·rw[if_neg ejk]at h3 |-;omega
   ·rename_i h1
    rw[vk h.inv.pJ]
    by_cases ejk:j=k
    ·rw[if_pos ejk]at h3
     rw[if_pos (show j=(k,({x.2 with aU:=x.2.aU-1}:fM)).1 from ejk)]
     unfold gT at h2
     rw[ejk,hg]at h2
     have h2:x.2.aU=((l.count k:Nat):Int):=h2
     show x.2.aU-1=_
     rw[ejk]at h3 |-;omega
    ·rw[if_neg ejk]at h3
     rw[if_neg (show ¬j=(k,({x.2 with aU:=x.2.aU-1}:fM)).1 from ejk)];omega
 ·unfold eO lh
  cases hg:aL aA cA k ms with
  |none=>exact⟨y,hy,hd⟩
  |some x=>
   obtain⟨hx,hxk⟩:=(aM ax h.inv.pJ).1 hg
   dsimp only
   by_cases ejk:j=k
   ·rw[ejk,hg]at hy;cases hy
    have h0:=h.inv.num y hx
    have aeG:y.1=k:=hxk
    have h2:=h.use k (by omega)
    have h3:=e k
    rw[if_pos rfl]at h3
    unfold gT at h2
    rw[hg]at h2
    have h2:y.2.aU=((l.count k:Nat):Int):=h2
    have h4:0<l'.count k:=List.count_pos_iff.2 (ejk▸hj)
    rw[if_neg (by omega),nV h.inv.pJ,if_pos (show j=(k,({y.2 with aU:=y.2.aU-1}:fM)).1 from ejk)]
    exact⟨_,rfl,hd⟩
   ·split
    ·rw[KB h.inv.pJ,if_neg ejk];exact⟨y,hy,hd⟩
    ·rw[nV h.inv.pJ,if_neg (show ¬j=(k,({x.2 with aU:=x.2.aU-1}:fM)).1 from ejk)];exact⟨y,hy,hd⟩
section
variable {n:Nat} {x:NC} {es:List af} {ids:pt}
theorem an.alpha{ms:dL}{L:List aY}{μ:Mem}(h:Ow (an n x es ms ids::L) μ):Ow (bV x.al es ms::Pt n 137 x.pv::iM x.id ids::L) μ:=(h.nest (L1:=[Pt n 137 x.pv,bV x.al es ms,iM x.id ids])).swap
theorem an.back{ms:dL}{L:List aY}{μ:Mem}(h:Ow (bV x.al es ms::Pt n 137 x.pv::iM x.id ids::L) μ):Ow (an n x es ms ids::L) μ:=Ow.pack (L1:=[Pt n 137 x.pv,bV x.al es ms,iM x.id ids]) h.swap
theorem acb{ms:dL}{l:List Int}(hU:gB es ms l)(hl:l.length<=900000)(c:ae)(ZH:cr c){L:List aY}{μ:Mem}(hO:Ow (an n x es ms ids::L) μ){K:Kq}
  (hk:∀k dd,gB es dd (k::l)->eO dd k c->jM ms dd->∀μ',Ow (an n x es dd ids::L) μ'->K (pI k) μ'):aa prog 166 [pP x.al 0,.agg [pI c.kind,pB c.goal,pS c.id,.list 6 .sh (c.attr.map Test.pv),.list 6 .sh (c.value.map Test.pv),pB c.acc,.list 7 .sh (c.conds.map ae.pv)]] μ K:=by
 have hle:=hU.len
 refine acz (an.alpha hO) hU.inv (by omega) (λy hy=>by have:=hU.us y hy;omega) c ZH (λy hy hc μ' h'=>?_) (λhn μ' b h'=>?_)
 ·obtain⟨h1,h2,h3⟩:=hU.one hl hy hc
  exact hk _ _ h1 h2 h3 μ' (an.back h')
 ·obtain⟨h1,h2,h3⟩:=hU.new hl ZH hn b
  exact hk _ _ h1 h2 h3 μ' (an.back h')
theorem Yy{ms:dL}{k:Int}{l l':List Int}(hU:gB es ms l)(e:∀j,l.count j=l'.count j+(if j=k then 1 else 0)){L:List aY}{μ:Mem}(hO:Ow (an n x es ms ids::L) μ){K:Kq}
  (hk:∀b dd,gB es dd l'->(∀j d,j∈l'->eO ms j d->eO dd j d)->∀μ',Ow (an n x es dd ids::L) μ'->K (pB b) μ'):aa prog 171 [pP x.al 0,pI k] μ K:=by
 obtain⟨h1,h2⟩:=hU.less e
 exact YC (an.alpha hO) hU.inv k λμ' h'=>hk _ _ h1 h2 μ' (an.back h')
end
end Go.Proofs.YtbodiiomcfgokaaGreat
