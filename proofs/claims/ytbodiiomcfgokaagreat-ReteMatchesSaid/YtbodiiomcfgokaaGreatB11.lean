import Derived.Test.YtbodiiomcfgokaaGreatB10
open Bool (not_not)
open Int (natCast_nonneg toNat)
open Go.IntKind (wrap)
open List (Perm.refl all_eq_true append_assoc append_nil flatMap_cons flatten getElem?_eq_getElem getElem_map getElem_mem length_append length_cons length_map length_nil map_append map_cons map_nil mem_append mem_cons mem_map mem_singleton not_mem_nil range sum_cons take take_add_one take_length take_zero)
open Nat (add_assoc le_refl zero_add)
set_option linter.all false
namespace Go.Proofs.YtbodiiomcfgokaaGreat
open Go.aP Go.RowKit
def hasB(K:List ByteArray)(v:ByteArray):Bool:=K.any λx=>aF x v
theorem qw{K:List ByteArray}{v:ByteArray}:hasB K v=true↔v∈K:=by
 unfold hasB;rw[List.any_eq_true];constructor
 ·rintro⟨x,hx,e⟩;rw[bF]at e;exact e▸hx
 ·intro h;exact⟨v,h,bF.2 rfl⟩
def pd(K:List ByteArray)(v:ByteArray):List ByteArray:=bif hasB K v then[]else[v]
theorem vb(K:List ByteArray)(v:ByteArray):(pd K v).length<=1:=by unfold pd;cases hasB K v<;>simp
def rC(K:List ByteArray)(t:Test):Option (List ByteArray):=
 bif (t.rel == 8)||aF t.var ⟨#[]⟩then some K else bif t.rel == 1 then some (K++pd K t.var)else bif hasB K t.var then some K else none
def iu:List ByteArray->List Test->Option (List ByteArray)
 |K,[]=>some K
 |K,t::ts=>match rC K t with
  |some K'=>iu K' ts
  |none=>none
theorem qk(K:List ByteArray)(a b:List Test):iu K (a++b)=(iu K a).bind λK'=>iu K' b:=by
 induction a generalizing K with
 |nil=>rfl
 |cons t a ih=>
  simp only[List.cons_append,iu];cases rC K t with
  |none=>rfl
  |some K'=>exact ih K'
theorem xq{K K':List ByteArray}{ts:List Test}{i:Nat}(hi:i<ts.length)(h:iu K (ts.take i)=some K'):iu K (ts.take (i+1))=rC K' ts[i]:=by
 rw[take_add_one,qk,h,getElem?_eq_getElem hi];simp only[Option.bind_some,Option.toList_some,iu];cases rC K' ts[i]<;>rfl
theorem Dz{K K':List ByteArray}{ts:List Test}{i:Nat}(hi:i<ts.length)(h:iu K (ts.take i)=some K')(hn:rC K' ts[i]=none):iu K ts=none:=by
 have:ts=ts.take (i+1)++ts.drop (i+1):=(List.take_append_drop _ _).symm;rw[this,qk,xq hi h,hn];rfl
def pe(K:List ByteArray)(c:ae):Option (List ByteArray):=
 (λK0=>bif hasB K0 c.id then(iu K0 c.attr).bind λK1=>iu K1 c.value else none) (bif c.goal then K++pd K c.id else K)
mutual
def vj:ae->Nat->List ByteArray->Except Nat (List ByteArray)
 | .mk k g i a v ac cs,n,K=>
   bif k == 3 then(match dW cs (n+1) K with
    | .error e=>.error e
    | .ok _=>.ok K)
   else match pe K (.mk k g i a v ac cs)with
    |none=>.error n
    |some K'=>.ok (bif k == 1 then K' else K)
def dW:List ae->Nat->List ByteArray->Except Nat (List ByteArray)
 |[],_,K=>.ok K
 |c::cs,n,K=>match vj c n K with
  | .error e=>.error e
  | .ok K'=>dW cs (n+aO c) K'
end
theorem Bc(c:ae)(n:Nat)(K:List ByteArray):vj c n K=(bif c.kind == 3 then(match dW c.conds (n+1) K with
   | .error e=>.error e
   | .ok _=>.ok K)
  else match pe K c with
   |none=>.error n
   |some K'=>.ok (bif c.kind == 1 then K' else K)):=by cases c;simp only[vj];rfl
theorem vi(a b:List ae)(n:Nat)(K:List ByteArray):dW (a++b) n K=match dW a n K with
  | .error e=>.error e
  | .ok K'=>dW b (n+ah a) K':=by
 induction a generalizing n K with
 |nil=>simp[dW,ah]
 |cons c a ih=>
  simp only[List.cons_append,dW,ah];cases vj c n K with
  |error e=>rfl
  |ok K'=>simp only[ih];rw[add_assoc]
theorem tu{l:List ae}{n i:Nat}{K K':List ByteArray}(hi:i<l.length)(h:dW (l.take i) n K=.ok K'):dW (l.take (i+1)) n K=vj l[i] (n+ah (l.take i)) K':=by
 rw[take_add_one,vi,h,getElem?_eq_getElem hi];simp only[Option.toList_some,dW];cases vj l[i] (n+ah (l.take i)) K'<;>rfl
theorem lI{l:List ae}{n i e:Nat}{K K':List ByteArray}(hi:i<l.length)(h:dW (l.take i) n K=.ok K')(hn:vj l[i] (n+ah (l.take i)) K'=.error e):dW l n K=.error e:=by
 have:l=l.take (i+1)++l.drop (i+1):=(List.take_append_drop _ _).symm;rw[this,vi,tu hi h,hn]
def Uz(t:Test):Prop:=t.rel=8->aF t.var ⟨#[]⟩=true
mutual
def Pc:ae->Prop
 | .mk k _ _ a v _ cs=>(k=3\/((k=1\/k=2)/\cs.length=0))/\a.length<=4/\v.length<=4/\(∀t∈a,Uz t)/\(∀t∈v,Uz t)/\Pb cs
def Pb:List ae->Prop
 |[]=>True
 |c::cs=>Pc c/\Pb cs
end
theorem AJ(c:ae):Pc c↔(c.kind=3\/((c.kind=1\/c.kind=2)/\c.conds.length=0))/\c.attr.length<=4/\c.value.length<=4/\(∀t∈c.attr,Uz t)/\(∀t∈c.value,Uz t)/\Pb c.conds:=by cases c;rfl
theorem LU{l:List ae}:Pb l↔∀c∈l,Pc c:=by
 induction l with
 |nil=>simp[Pb]
 |cons c l ih=>simp[Pb,ih]
theorem GO{t:Test}(h:dF t=true):Uz t:=λe=>by
 unfold dF at h;simp only[e,beq_self_eq_true,cond_true,Bool.and_eq_true]at h;exact h.1
theorem Si{c:ae}{d:Int}(h:bw c d=0):(c.kind=3\/((c.kind=1\/c.kind=2)/\c.conds.length=0))/\c.attr.length<=4/\c.value.length<=4/\(∀t∈c.attr,Uz t)/\(∀t∈c.value,Uz t):=by
 unfold bw at h;cases h3:c.kind == 3 with
 |true=>
  rw[h3]at h;simp only[cond_true]at h;have hk:c.kind=3:=by simpa using h3
  cases hb:(c.goal||(!aF c.id ⟨#[]⟩||(decide (0<c.attr.length)||(decide (0<c.value.length)||(c.acc||decide (c.conds.length=0))))))with
  |true=>rw[hb]at h;simp at h
  |false=>
   simp only[Bool.or_eq_false_iff,decide_eq_false_iff_not]at hb;obtain⟨_,_,ha,hv,_⟩:=hb;refine⟨.inl hk,by omega,by omega,λt ht=>?_,λt ht=>?_⟩
   ·have:=List.length_pos_of_mem ht;omega
   ·have:=List.length_pos_of_mem ht;omega
 |false=>
  rw[h3]at h;simp only[cond_false]at h;cases lO:(c.kind == 1)||(c.kind == 2)with
  |false=>rw[lO]at h;simp at h
  |true=>
   rw[lO]at h;simp only[cond_true]at h;have hk:c.kind=1\/c.kind=2:=by simpa using lO
   cases hb:(decide (0<c.conds.length)||(!iX c.id||decide (c.attr.length=0)))with
   |true=>rw[hb]at h;simp at h
   |false=>
    rw[hb]at h;simp only[cond_false]at h;cases hm:(decide (4<c.attr.length)||decide (4<c.value.length))with
    |true=>rw[hm]at h;simp at h
    |false=>
     rw[hm]at h;simp only[cond_false]at h;cases ht:(!(c.attr.all dF)|| !(c.value.all dF))with
     |true=>rw[ht]at h;simp at h
     |false=>
      simp only[Bool.or_eq_false_iff,decide_eq_false_iff_not,Bool.not_eq_false',all_eq_true]at hb hm ht;exact⟨.inr ⟨hk,by omega⟩,by omega,by omega,λt h=>GO (ht.1 t h),λt h=>GO (ht.2 t h)⟩
theorem yN{l:List (Nat×Nat×ae)}(h:cR l=none):∀x∈l,bw x.2.2 x.2.1=0:=by
 induction l with
 |nil=>intro x hx;cases hx
 |cons y l ih=>
  obtain⟨a,d,c⟩:=y;simp only[cR]at h;cases hc:bw c d == 0 with
  |false=>rw[hc]at h;cases h
  |true=>
   rw[hc]at h;intro x hx;rcases mem_cons.1 hx with rfl|hx
   ·simpa using hc
   ·exact ih h x hx
mutual
theorem UB:∀(c:ae) (a d:Nat),(∀x∈gD c a d,bw x.2.2 x.2.1=0)->Pc c
 | .mk k g i at_ v ac cs,a,d,h=>by
   have h0:=Si (h (a,d,.mk k g i at_ v ac cs) (by simp[gD]))
   exact⟨h0.1,h0.2.1,h0.2.2.1,h0.2.2.2.1,h0.2.2.2.2,ER cs (a+1) (d+1) λx hx=>h x (by simp[gD,hx])⟩
theorem ER:∀(l:List ae) (a d:Nat),(∀x∈cX l a d,bw x.2.2 x.2.1=0)->Pb l
 |[],_,_,_=>trivial
 |c::cs,a,d,h=>⟨UB c a d λx hx=>h x (by simp[cX,hx]),ER cs (a+aO c) d λx hx=>h x (by simp[cX,hx])⟩
end
def nB(K:List ByteArray)(a:Atom):Bool:= !aF a.var ⟨#[]⟩&& !hasB K a.var
def iC(K:List ByteArray)(a:cT):Bool:=nB K a.attr||((a.value.op != 0)&&(nB K a.value.a||nB K a.value.b))
def ia(K:List ByteArray):Nat->List cT->Option Nat
 |_,[]=>none
 |i,a::l=>bif iC K a then some i else ia K (i+1) l
theorem yM{K:List ByteArray}{l:List cT}{k i:Nat}(hk:k<l.length)(h:ia K i (l.take k)=none):ia K i (l.take (k+1))=(bif iC K l[k]then some (i+k)else none):=by
 induction l generalizing k i with
 |nil=>simp at hk
 |cons a l ih=>
  cases k with
  |zero=>simp[ia]
  |succ k=>
   simp only[List.take_succ_cons,ia,List.getElem_cons_succ]at h |-;cases ha:iC K a with
   |true=>rw[ha]at h;cases h
   |false=>
    rw[ha]at h;simp only[cond_false]at h |-;rw[ih (by simpa using hk) h];congr 2;omega
theorem Bw{K:List ByteArray}{l:List cT}{k i:Nat}(hk:k<l.length)(h:ia K i (l.take k)=none)(ha:iC K l[k]=true):ia K i l=some (i+k):=by
 induction l generalizing k i with
 |nil=>simp at hk
 |cons a l ih=>
  cases k with
  |zero=>simp only[List.getElem_cons_zero]at ha;simp[ia,ha]
  |succ k=>
   simp only[List.take_succ_cons,ia,List.getElem_cons_succ]at h ha |-;cases hb:iC K a with
   |true=>rw[hb]at h;cases h
   |false=>
    rw[hb]at h;simp only[cond_false]at h |-;rw[ih (by simpa using hk) h ha];congr 1;omega
def bT(p:Prod):Int×Int×List ByteArray:=
 bif (cU p).2 != 0 then((cU p).1,(cU p).2,[])else
 bif (p.conds.head?.map ae.kind).getD 0 != 1 then(0,9,[])else
 match dW p.conds 0 []with
 | .error n=>((n:Int),6,[])
 | .ok K=>match ia K 0 p.bk with
   |some i=>(((ah p.conds+i:Nat):Int),6,[])
   |none=>(-1,0,K)
theorem wR{p:Prod}(h:(cU p).2=0):1<=ah p.conds/\ah p.conds<=16/\1<=p.bk.length/\p.bk.length<=16/\Pb p.conds:=by
 unfold cU at h;cases hw:iX p.name with
 |false=>rw[hw]at h;simp at h
 |true=>
  rw[hw]at h;simp only[Bool.not_true,cond_false]at h;cases hb:(decide (ah p.conds<1)||(decide (16<ah p.conds)||(decide (p.bk.length<1)||decide (16<p.bk.length))))with
  |true=>rw[hb]at h;simp at h
  |false=>
   rw[hb]at h;simp only[cond_false]at h;simp only[Bool.or_eq_false_iff,decide_eq_false_iff_not]at hb;refine⟨by omega,by omega,by omega,by omega,ER _ 0 0 (yN ?_)⟩;unfold lu at h;split at h
   ·rename_i a e he;exfalso;have:∀l:List (Nat×Nat×ae),cR l=some (a,e)->e≠0:=by
     intro l;induction l with
     |nil=>intro h;cases h
     |cons y l ih=>
      obtain⟨a',d,c⟩:=y;simp only[cR];cases hc:bw c d == 0 with
      |true=>exact ih
      |false=>
       intro h;simp only[cond_false,Option.some.injEq,Prod.mk.injEq]at h;rw[<- h.2];simpa using hc
    exact this _ he h
   ·assumption
open Go.Proofs.Tryz
namespace K6
def Jr(fl:Fl):List Nat:=match fl with| .nh b _=>[b]|_=>[]
abbrev q_:TypeId:=216
abbrev GK:TypeId:=9
def vQ(μ:Mem)(p:PV)(row:List ByteArray)(F:List Nat):Prop:=(p=.list 1 .nil []/\row=[]/\F=[])\/vR GK 1 μ p (ch row) F
theorem vQ.at_{μ:Mem}{p:PV}{row:List ByteArray}{F:List Nat}(h:vQ μ p row F):∀x∈F,μ x≠none:=by
 rcases h with⟨_,_,rfl⟩|h
 ·intro x hx;cases hx
 ·exact h.at_
theorem vQ.same{μ μ':Mem}{p:PV}{row:List ByteArray}{F:List Nat}(h:vQ μ p row F)(hk:∀x∈F,μ' x=μ x):vQ μ' p row F:=by
 rcases h with h|h
 ·exact .inl h
 ·exact .inr (h.same hk)
theorem vQ.view{μ:Mem}{p:PV}{row:List ByteArray}{F:List Nat}(h:vQ μ p row F):gy μ p (.list 1 .sh (ch row)):=by
 rcases h with⟨rfl,rfl,_⟩|h
 ·exact .wk (.list 1 .nil [])
 ·exact h.view (cP _) (ji _)
structure iU(μ:Mem)(k:Nat)(K row:List ByteArray)(F:List Nat):Prop where
 ex:∃b L p Fs Fr,μ k=some (.cells q_ [pP b 0,p])/\BS μ b L Fs/\Up bE L/\(∀y,y∈L↔y∈K)/\L.length<=K.length/\vQ μ p row Fr/\k∉Fs/\(∀x∈Fr,x≠k/\x∉Fs)/\F=k::(Fs++Fr)
 row:row.length<=K.length
theorem iU.at_{μ:Mem}{k:Nat}{K row:List ByteArray}{F:List Nat}(h:iU μ k K row F):∀x∈F,μ x≠none:=by
 obtain⟨b,L,p,Fs,Fr,h1,h2,_,_,_,h3,_,_,rfl⟩:=h.ex;intro x hx;simp only[mem_cons,mem_append]at hx;rcases hx with rfl|hx|hx
 ·rw[h1];simp
 ·exact h2.at_.2 x hx
 ·exact h3.at_ x hx
theorem iU.same{μ μ':Mem}{k:Nat}{K row:List ByteArray}{F:List Nat}(h:iU μ k K row F)(hk:∀x∈F,μ' x=μ x):iU μ' k K row F:=by
 obtain⟨b,L,p,Fs,Fr,h1,h2,h3,h4,h5,h6,h7,h8,rfl⟩:=h.ex;exact⟨⟨b,L,p,Fs,Fr,by rw[hk k (by simp)];exact h1,h2.same λx hx=>hk x (by simp[hx]),h3,h4,h5,h6.same λx hx=>hk x (by simp[hx]),h7,h8,rfl⟩,h.row⟩
theorem iU.raw{μ:Mem}{k:Nat}{K row:List ByteArray}{F:List Nat}(h:iU μ k K row F):∃μ',GU μ μ'/\Mv μ μ' F F/\∃b L p Fs Fr,μ' k=some (.cells q_ [pP b 0,p])/\BS μ' b L Fs/\Up bE L/\(∀y,y∈L↔y∈K)/\L.length<=K.length/\vR GK 1 μ' p (ch row) Fr/\k∉Fs/\(∀x∈Fr,x≠k/\x∉Fs)/\F=k::(Fs++Fr):=by
 obtain⟨b,L,p,Fs,Fr,h1,h2,h3,h4,h5,h6,h7,h8,rfl⟩:=h.ex;rcases h6 with⟨rfl,rfl,rfl⟩|h6
 ·refine⟨μ.set k (some (.cells q_ [pP b 0,.raw (.slice none 0 0)])),GU.bor (μ1:=M0) (λ_ _ h=>by cases h) λx o hx=>⟨rfl,?_⟩,(Mv.set (.inl (by simp))).sub (by simp),b,L,_,Fs,[],Mem.ao _ _ _,h2.same λx hx=>Mem.ax _ _ (λe=>h7 (e▸hx)),h3,h4,h5,.inl ⟨rfl,rfl,rfl⟩,h7,h8,rfl⟩;by_cases e:x=k
  ·subst e;rw[Mem.ao]at hx;cases hx;exact .inr ⟨q_,_,_,rfl,h1,dC.cons (.same _) (dC.cons (.nil 1 []) (dC.nil _))⟩
  ·rw[Mem.ax _ _ e]at hx;exact .inl hx
 ·exact⟨μ,GU.refl μ,Mv.refl _ _,b,L,p,Fs,Fr,h1,h2,h3,h4,h5,h6,h7,h8,rfl⟩
theorem SH{μ:Mem}{k:Nat}{K row:List ByteArray}{F:List Nat}(h:iU μ k K row F)(hl:K.length<=100000)(v:ByteArray){R:Kq}(hk:∀μ' F',iU μ' k (K++pd K v) (row++pd K v) F'->Mv μ μ' F F'->R (.az []) μ'):aa prog 254 [pP k 0,pS v] μ R:=by
 have d_:=h.row;obtain⟨μ0,hG,Xa,b,L,p,Fs,Fr,h1,h2,h3,h4,h5,h6,h7,h8,rfl⟩:=h.raw;refine aa.pre hG (vV.c ?_);refine⟨_,aJ h1 (by simp),fL h2 h3 (by omega) v λμ1 L1 F1 t ht i1 i2 i3 i4 i5=>⟨_,rfl,?_⟩⟩;have hkF:μ1 k=μ0 k:=i5.cw k (by rw[h1];simp) h7;have hFr:∀x∈Fr,μ1 x=μ0 x:=λx hx=>i5.cw x (h6.at_ x hx) (h8 x hx).2;have h6':=h6.same hFr;have GA:=hkF.trans h1;have Zh:k∉F1:=λhm=>(i5.grow k hm).elim h7 λe=>by rw[h1]at e;cases e
 have YT:∀x∈Fr,x∉F1:=λx hx hm=>(i5.grow x hm).elim (h8 x hx).2 (h6.at_ x hx);have yC:Mv μ0 μ1 (k::(Fs++Fr)) (k::(F1++Fr)):=by
  refine(i5.wide (G:=k::(Fs++Fr)) λx hx=>by simp[hx]).sub λx hx=>?_;simp only[mem_cons,mem_append]at hx |-;rcases hx with h|h|h
  ·exact .inr (.inl h)
  ·exact .inl h
  ·exact .inr (.inr (.inr h))
 refine ab.mk (λe=>?_) (λe=>?_)
 ·have hn:v∉K:=λhv=>ht.1 e ((h4 v).2 hv);have hb:hasB K v=false:=by
   cases hb:hasB K v with
   |false=>rfl
   |true=>exact absurd (qw.1 hb) hn
  have jq:pd K v=[v]:=by unfold pd;rw[hb];rfl
  rw[jq]at hk;obtain⟨a,c,rfl,kg⟩:=h6'.app (cP row);refine⟨_,_,_,aJ GA (by simp),?_⟩;simp only[da]at kg;rw[da];refine kg [pS v] 16 _ rfl rfl (by omega) (by omega) λb' c' rest μ2 jY ja su sq=>?_;have nk:b'≠k:=by
   rintro rfl;rcases sq.grow b' (by simp)with h|h
   ·exact(h8 b' h).1 rfl
   ·rw[GA]at h;cases h
  have nF:b'∉F1:=λhx=>by
   rcases sq.grow b' (by simp)with h|h
   ·exact YT b' h hx
   ·exact i1.at_.2 b' hx h
  have eK:μ2 k=μ1 k:=sq.cw k (by rw[GA];simp) λhx=>(h8 k hx).1 rfl;refine⟨_,_,eK.trans GA,by simp,?_⟩;have hw:dx [pP b 0,.raw (.slice a (ch row).length c)] (0+1) [PV.raw (.slice (some ⟨b',0,none⟩) (row.length+1) c')]=[pP b 0,.raw (.slice (some ⟨b',0,none⟩) (row.length+1) c')]:=by simp[dx]
  rw[hw];have agX:Mv μ1 μ2 (k::(F1++Fr)) (k::(F1++[b'])):=by
   refine(sq.wide (G:=k::(F1++Fr)) λx hx=>by simp[hx]).sub λx hx=>?_;simp only[mem_cons,mem_append,not_mem_nil,or_false]at hx |-;rcases hx with h|h|h
   ·exact .inr (.inl h)
   ·exact .inr (.inr (.inl h))
   ·exact .inl h
  refine hk _ (k::(F1++[b'])) ⟨⟨b,L1,_,F1,[b'],Mem.ao _ _ _,i1.same λx hx=>?_,i2,λy=>?_,by rw[e]at i4;simp at i4 |-;omega,.inr (.inr ⟨b',c',rest,?_,rfl,?_,?_,?_⟩),Zh,λx hx=>?_,rfl⟩,by simp;omega⟩ (Xa.trans (yC.trans (agX.trans ((Mv.set (.inl (by simp))).sub (by simp)))))
  ·rw[Mem.ax _ _ (show x≠k from λe=>Zh (e▸hx))];exact sq.cw x (i1.at_.2 x hx) λMg=>YT x Mg hx
  ·rw[i3,h4];simp[or_comm]
  ·simp
  ·rw[Mem.ax _ _ nk,jY];simp[ch]
  ·simpa using ja
  ·simpa using su
  ·simp at hx;subst hx;exact⟨nk,nF⟩
 ·have hv:v∈K:=by
   refine Classical.byContradiction λhn=>?_;have:=ht.2 λhv=>hn ((h4 v).1 hv);rw[e]at this;cases this
  have jq:pd K v=[]:=by unfold pd;rw[qw.2 hv];rfl
  rw[jq,append_nil,append_nil]at hk;refine hk μ1 (k::(F1++Fr)) ⟨⟨b,L1,p,F1,Fr,GA,i1,i2,λy=>?_,?_,.inr h6',Zh,λx hx=>⟨(h8 x hx).1,YT x hx⟩,rfl⟩,d_⟩ (Xa.trans yC)
  ·rw[i3,h4];exact⟨λh=>h.elim (λe=>e▸hv) id,.inr⟩
  ·rw[e]at i4;simp at i4;omega
theorem aad{μ:Mem}{k:Nat}{K row:List ByteArray}{F:List Nat}(h:iU μ k K row F)(hl:K.length<=100000)(v:ByteArray){R:Kq}(hk:R (pB (hasB K v)) μ):aa prog 196 [pP k 0,pS v] μ R:=by
 obtain⟨b,L,p,Fs,Fr,h1,h2,h3,h4,h5,h6,h7,h8,rfl⟩:=h.ex;refine vW.c ?_;refine⟨_,aJ h1 (by simp),qH h2 h3 (by omega) v λi t hf=>⟨_,_,rfl,?_⟩⟩;have:t=hasB K v:=by
  have e:t=true↔hasB K v=true:=by rw[hf.mem cJ,h4,qw]
  exact Bool.eq_iff_iff.2 e
 rw[this];exact hk
theorem aab{μ:Mem}{k:Nat}{K row:List ByteArray}{F:List Nat}(h:iU μ k K row F){R:Kq}(hk:∀μ' k2 F1 F2,iU μ' k K row F1->iU μ' k2 K [] F2->(∀x∈F2,x∉F1)->Mv μ μ' F (F1++F2)->R (pP k2 0) μ'):aa prog 194 [pP k 0] μ R:=by
 have nE:=h.at_;obtain⟨b,L,p,Fs,Fr,h1,h2,h3,h4,h5,h6,h7,h8,rfl⟩:=h.ex;refine rH.c ?_;refine⟨_,aJ h1 (by simp),aak h2 λμ1 b2 qv aQ i1 i2 i3=>⟨_,rfl,λk2 eK=>?_⟩⟩;have hkF:μ1 k=μ k:=i3.cw k (by rw[h1];simp) h7;have jB:μ1 k≠none:=by rw[hkF,h1];simp
 have acG:∀x∈Fr,μ1 x=μ x:=λx hx=>i3.cw x (nE x (by simp[hx])) (h8 x hx).2;have n1:∀x,μ1 x≠none->x≠k2:=λx hx e=>hx (e▸eK);have nb2:b2≠k:=by
  rintro rfl;rcases qv with h|h
  ·exact h7 h
  ·rw[h1]at h;cases h
 have hbk:b≠k:=by rintro rfl;exact h7 h2.at_.1
 have ach:∀x∈Fr,x≠b/\x≠b2:=λx hx=>⟨λe=>(h8 x hx).2 (e▸h2.at_.1),λe=>by
  subst e
  rcases qv with h|h
  ·exact(h8 x hx).2 h
  ·exact nE x (by simp[hx]) h⟩
 have abK:∀x∈Fr,μ1 x≠none:=λx hx=>by rw[acG x hx];exact nE x (by simp[hx])
 refine hk _ k2 (k::([b]++Fr)) (k2::([b2]++[])) ⟨⟨b,L,p,[b],Fr,?_,i1.same λx hx=>?_,h3,h4,h5,h6.same λx hx=>?_,by simp[Ne.symm hbk],λx hx=>⟨(h8 x hx).1,by simp[(ach x hx).1]⟩,rfl⟩,h.row⟩ ⟨⟨b2,L,_,[b2],[],Mem.ao _ _ _,i2.same λx hx=>?_,h3,h4,h5,.inl ⟨rfl,rfl,rfl⟩,?_,λx hx=>by simp at hx,rfl⟩,by simp⟩ (λx hx=>?_) ?_
 ·rw[Mem.ax _ _ (n1 k jB),hkF];exact h1
 ·exact Mem.ax _ _ (n1 x (i1.at_.2 x hx))
 ·rw[Mem.ax _ _ (n1 x (abK x hx))];exact acG x hx
 ·exact Mem.ax _ _ (n1 x (i2.at_.2 x hx))
 ·simp only[mem_singleton];rintro rfl;exact i2.at_.2 k2 (by simp) eK
 ·simp only[append_nil,mem_cons,not_mem_nil,or_false]at hx;intro Mg;simp only[mem_cons,mem_append,not_mem_nil,or_false]at Mg;rcases hx with rfl|rfl
  ·rcases Mg with e|e|e
   ·exact jB (e▸eK)
   ·exact i1.at_.2 x (by simp[e]) eK
   ·exact abK x e eK
  ·rcases Mg with e|e|e
   ·exact nb2 e
   ·exact aQ e
   ·exact(ach x e).2 rfl
 ·refine((i3.wide (G:=k::(Fs++Fr)) λx hx=>by simp[hx]).trans (Mv.set (.inr eK))).sub λx hx=>?_;simp only[append_nil,mem_cons,mem_append,not_mem_nil,or_false]at hx |-;rcases hx with(rfl|rfl|hx)|rfl|rfl
  ·simp
  ·simp
  ·simp[hx]
  ·simp
  ·simp
theorem SN{μ:Mem}{k:Nat}{K row:List ByteArray}{F:List Nat}(h:iU μ k K row F)(fl:Fl)(ts:List Test)(hl:K.length+ts.length<=100000){R:Kq}
  (aI:∀μ' F' K' e,iu K ts=some K'->K'=K++e->e.length<=ts.length->iU μ' k K' (row++e) F'->Mv μ μ' F F'->R (pB true) μ') (cQ:∀μ' F',iu K ts=none->Mv μ μ' F F'->R (pB false) μ'):aa prog 255 [pP k 0,.list 6 fl (ts.map Test.pv)] μ R:=by
 refine rI.c ?_;refine ak.each (n:=ts.length) (by omega) (λi u=>∃Ki e Fi,iu K (ts.take i)=some Ki/\Ki=K++e/\e.length<=i/\iU u k Ki (row++e) Fi/\Mv μ u F Fi) ⟨K,[],F,by simp[iu],by simp,by simp,by simpa using h,Mv.refl _ _⟩ ?_ ?_
 ·rintro i u next hi ⟨Ki,e,Fi,i1,rfl,i2,i3,i4⟩ av
  have hlen:(K++e).length<=100000:=by rw[length_append];omega
  refine ab.t (by simpa using hi) ⟨by omega,_,aC hi,_,_,_,_,_,_,_,rfl,?_⟩;have hT:=xq hi i1;have same:rC (K++e) ts[i]=some (K++e)->∀u',u'=u->next (wrap .i64 ((i:Int)+1)) u':=λhm u' gd=>by
   subst gd;exact av _ ⟨K++e,e,Fi,by rw[hT,hm],rfl,by omega,i3,i4⟩
  refine ab.mk (λh8=>same (by simp[rC,h8]) _ rfl) (λh8=>ab.mk (λhv=>same (by simp[rC,hv]) _ rfl) (λhv=>ab.mk (λh1=>?_) (λh1=>?_)))
  ·refine SH i3 hlen ts[i].var λμ' F' j1 j2=>⟨rfl,av _ ⟨K++(e++pd (K++e) ts[i].var),e++pd (K++e) ts[i].var,F',?_,rfl,?_,by rw[append_assoc,append_assoc]at j1;exact j1,i4.trans j2⟩⟩
   ·rw[hT];simp[rC,h8,hv,h1]
   ·have:=vb (K++e) ts[i].var;rw[length_append];omega
  ·refine aad i3 hlen ts[i].var ⟨_,rfl,ab.mk (λhh=>?_) (λhh=>?_)⟩
   ·refine cQ u Fi (Dz hi i1 ?_) i4;have hh:hasB (K++e) ts[i].var=false:=nb hh;simp[rC,h8,hv,h1,hh]
   ·have hh:hasB (K++e) ts[i].var=true:=nt hh;exact same (by simp[rC,h8,hv,h1,hh]) _ rfl
 ·rintro u next ⟨Ki,e,Fi,i1,rfl,i2,i3,i4⟩
  rw[take_length]at i1;exact ab.f (by simp) (aI u Fi _ e i1 rfl i2 i3 i4)
theorem ad8{μ:Mem}{k:Nat}{K row:List ByteArray}{F:List Nat}(h:iU μ k K row F)(c:ae)(hc:Pc c)(hl:K.length<=10000){R:Kq}
  (aI:∀μ' F' K' e,pe K c=some K'->K'=K++e->e.length<=9->iU μ' k K' (row++e) F'->Mv μ μ' F F'->R (pB true) μ') (cQ:∀μ' F',pe K c=none->Mv μ μ' F F'->R (pB false) μ'):aa prog 195 [pP k 0,.agg c.pv] μ R:=by
 obtain⟨_,ha,hv,_,_,_⟩:=(AJ c).1 hc;rw[ae.cH];refine vU.c ?_;have go:∀(u:Mem) (e:List ByteArray) (F1:List Nat),K++e=(bif c.goal then K++pd K c.id else K)->e.length<=1->iU u k (K++e) (row++e) F1->Mv μ u F F1->
   aa prog 196 [pP k 0,pS c.id] u λPz wD=>∃x14,Pz=pB x14/\ab x14 (aa prog 255 [pP k 0,.list 6 .sh (c.attr.map Test.pv)] wD λXT Lv=>∃x19,XT=pB x19/\ab x19 (aa prog 255 [pP k 0,.list 6 .sh (c.value.map Test.pv)] Lv λv_3 Gr=>∃x25,v_3=pB x25/\R (pB x25) Gr) (R (pB false) Lv)) (R (pB false) wD):=by
  intro u e F1 he hle i1 i2;have hm:pe K c=(bif hasB (K++e) c.id then(iu (K++e) c.attr).bind λK1=>iu K1 c.value else none):=by unfold pe;rw[<- he]
  have hlen:(K++e).length<=10001:=by rw[length_append];omega
  refine aad i1 (by omega) c.id ⟨_,rfl,ab.mk (λhh=>?_) (λhh=>cQ u F1 (by rw[hm,hh];rfl) i2)⟩;rw[hh]at hm;refine SN i1 .sh c.attr (by omega) (λμ1 F2 K1 e1 j1 j2 j3 j4 j5=>⟨_,rfl,ab.t rfl ?_⟩) (λμ1 F2 j1 j5=>⟨_,rfl,ab.f rfl (cQ μ1 F2 (by rw[hm,j1];rfl) (i2.trans j5))⟩);subst j2;refine SN j4 .sh c.value (by rw[length_append];omega) (λμ2 F3 K2 e2 l1 l2 l3 l4 l5=>⟨_,rfl,?_⟩) (λμ2 F3 l1 l5=>⟨_,rfl,cQ μ2 F3 (by rw[hm];simp only[cond_true,j1,Option.bind_some];exact l1) (i2.trans (j5.trans l5))⟩);refine aI μ2 F3 K2 (e++e1++e2) (by rw[hm];simp only[cond_true,j1,Option.bind_some];exact l1) (by rw[l2];simp) (by simp;omega) ?_ (i2.trans (j5.trans l5));simpa using l4
 refine cf.of λJ hJ=>ab.mk (λhg=>?_) (λhg=>?_)
 ·refine SH h (by omega) c.id λμ1 F1 j1 j2=>⟨rfl,hJ _ _ (go μ1 _ F1 (by rw[hg];rfl) (vb K c.id) j1 j2)⟩
 ·exact hJ _ _ (go μ [] F (by rw[hg];simp) (by simp) (by simpa using h) (Mv.refl _ _))
theorem iU.beside{μ μ' mR:Mem}{k:Nat}{K row:List ByteArray}{F F1 F2 F2':List Nat}(h:iU μ' k K row F1)(hd:∀x∈F2,x∉F1)(hm:Mv μ μ' F (F1++F2))(sr:Mv μ' mR F2 F2'):iU mR k K row F1/\Mv μ mR F F1:=by
 refine⟨h.same λx hx=>sr.cw x (h.at_ x hx) λMg=>hd x Mg hx,?_⟩;refine(hm.trans (sr.wide (G:=F1++F2) λx hx=>by simp[hx])).sub λx hx=>by simp[hx]
theorem VV:∀(n:Nat) {μ:Mem} {k:Nat} {K row:List ByteArray} {F:List Nat} (h:iU μ k K row F) (fl:Fl) (l:List ae) (at_:Nat),ah l<=n->Pb l->K.length<=9*at_->at_+ah l<=1000->∀{R:Kq},
  (∀μ' F' K' e,dW l at_ K=.ok K'->K'=K++e->K'.length<=9*(at_+ah l)->iU μ' k K' (row++e) F'->Mv μ μ' F F'->R (.az [pI ((at_+ah l:Nat):Int),pB true]) μ')->(∀μ' F' (e:Nat),dW l at_ K=.error e->Mv μ μ' F F'->R (.az [pI (e:Int),pB false]) μ')->
  aa prog 130 [pP k 0,.list 7 fl (l.map ae.pv),pI (at_:Nat)] μ R:=by
 intro n;induction n with
 |zero=>
  intro μ k K row F h fl l at_ hn _ _ _ R aI _;have:l=[]:=by
   cases l with
   |nil=>rfl
   |cons c l=>simp[ah,bN]at hn
  subst this;refine kE.c ?_
  exact ak.dd (n:=0) (by omega) (λi x u=>x=((at_:Nat):Int)/\u=μ) ⟨rfl,rfl⟩ (λi x u next hi=>by omega) (λx u next hx=>by
   obtain⟨rfl,rfl⟩:=hx
   exact ab.f (by simp) (aI u F K [] rfl (by simp) (by simp[ah];omega) (by simpa using h) (Mv.refl _ _)))
 |succ n ih=>
  intro μ k K row F h fl l at_ hn YX hK fw R aI Zm;refine kE.c ?_;have rD:=cK l;refine ak.dd (n:=l.length) (by omega) (λi x u=>x=((at_+ah (l.take i):Nat):Int)/\∃Ki e Fi,dW (l.take i) at_ K=.ok Ki/\Ki=K++e/\Ki.length<=9*(at_+ah (l.take i))/\iU u k Ki (row++e) Fi/\Mv μ u F Fi) ⟨by simp[ah],K,[],F,by simp[dW],by simp,by simp[ah];omega,by simpa using h,Mv.refl _ _⟩ ?_ ?_
  ·rintro i _ u next hi ⟨rfl,Ki,e,Fi,i1,rfl,i2,i3,i4⟩ av
   have hm:=dz (getElem_mem hi);have hs:=jH l (i+1);have fC:=eH hi;rw[fC]at hs;have eb:=LU.1 YX l[i] (getElem_mem hi);obtain⟨Mn,_,_,_,_,Rk⟩:=(AJ _).1 eb;have hT:=tu hi i1;have hC:=Bc l[i] (at_+ah (l.take i)) (K++e);have d_:aA l[i].pv 0 7=some [pI l[i].kind,pB l[i].goal,pS l[i].id,.list 6 .sh (l[i].attr.map Test.pv),.list 6 .sh (l[i].value.map Test.pv),pB l[i].acc,.list 7 .sh (l[i].conds.map ae.pv)]:=by rw[ae.cH];rfl
   refine ab.t (by simpa using hi) ⟨by omega,_,aC hi,_,_,_,_,_,_,_,_,_,_,d_,?_⟩;dsimp only;have RL:wrap .i64 (((at_+ah (l.take i):Nat):Int)+1)=((at_+ah (l.take i)+1:Nat):Int):=by rw[aD (by omega) (by omega)];omega
   refine cf.of λJ hJ=>ab.mk (λhp=>?_) (λhp=>?_)
   ·have jB:(l[i].kind == 1)=false:=by simpa using hp
    refine aab i3 λμ1 k2 F1 F2 j1 j2 j3 j4=>⟨_,rfl,hJ _ _ (ab.mk (λh3=>?_) (λh3=>?_))⟩
    ·rw[RL];rw[h3]at hC;refine ih j2 .sh l[i].conds (at_+ah (l.take i)+1) (by omega) Rk (by omega) (by omega) (λμ2 F3 K2 e2 l1 l2 l3 l4 l5=>⟨_,_,rfl,ab.f rfl ?_⟩) (λμ2 F3 e2 l1 l5=>⟨_,_,rfl,ab.t rfl (Zm μ2 _ e2 (lI hi i1 (by rw[hC,l1];rfl)) (i4.trans (j1.beside j3 j4 l5).2))⟩);obtain⟨b1,b2⟩:=j1.beside j3 j4 l5;refine av _ _ ⟨?_,K++e,e,F1,?_,rfl,?_,b1,i4.trans b2⟩
     ·rw[fC];congr 1;omega
     ·rw[hT,hC,l1];rfl
     ·rw[fC];omega
    ·rw[h3,jB]at hC;have oB:l[i].conds.length=0:=by
      rcases Mn with h|h
      ·rw[h]at h3;simp at h3
      ·exact h.2
     have Zq:l[i].conds=[]:=List.eq_nil_of_length_eq_zero oB;have agD:ah l[i].conds=0:=by rw[Zq];rfl
     have kZ:PV.agg [pI l[i].kind,pB l[i].goal,pS l[i].id,.list 6 .sh (l[i].attr.map Test.pv),.list 6 .sh (l[i].value.map Test.pv),pB l[i].acc,.list 7 .sh (l[i].conds.map ae.pv)]=.agg l[i].pv:=by rw[ae.cH]
     rw[kZ];refine ad8 j2 l[i] eb (by omega) (λμ2 F3 K2 e2 l1 l2 l3 l4 l5=>⟨_,rfl,ab.f rfl ?_⟩) (λμ2 F3 l1 l5=>⟨_,rfl,ab.t rfl (Zm μ2 _ _ (lI hi i1 (by rw[hC,l1];rfl)) (i4.trans (j1.beside j3 j4 l5).2))⟩);obtain⟨b1,b2⟩:=j1.beside j3 j4 l5;rw[RL];refine av _ _ ⟨?_,K++e,e,F1,?_,rfl,?_,b1,i4.trans b2⟩
     ·rw[fC];congr 1;omega
     ·rw[hT,hC,l1];rfl
     ·rw[fC];omega
   ·have jB:l[i].kind=1:=by simpa using hp
    have h3:(l[i].kind == 3)=false:=by rw[jB];rfl
    refine hJ _ _ (ab.f h3 ?_);rw[h3,show(l[i].kind == 1)=true by rw[jB];rfl]at hC;have oB:l[i].conds.length=0:=by
     rcases Mn with h|h
     ·rw[jB]at h;cases h
     ·exact h.2
    have Zq:l[i].conds=[]:=List.eq_nil_of_length_eq_zero oB;have agD:ah l[i].conds=0:=by rw[Zq];rfl
    have kZ:PV.agg [pI l[i].kind,pB l[i].goal,pS l[i].id,.list 6 .sh (l[i].attr.map Test.pv),.list 6 .sh (l[i].value.map Test.pv),pB l[i].acc,.list 7 .sh (l[i].conds.map ae.pv)]=.agg l[i].pv:=by rw[ae.cH]
    rw[kZ];refine ad8 i3 l[i] eb (by omega) (λμ2 F3 K2 e2 l1 l2 l3 l4 l5=>⟨_,rfl,ab.f rfl ?_⟩) (λμ2 F3 l1 l5=>⟨_,rfl,ab.t rfl (Zm μ2 _ _ (lI hi i1 (by rw[hC,l1];rfl)) (i4.trans l5))⟩);rw[RL];refine av _ _ ⟨?_,K2,e++e2,F3,?_,by rw[l2,append_assoc],?_,by rw[<- append_assoc];exact l4,i4.trans l5⟩
    ·rw[fC];congr 1;omega
    ·rw[hT,hC,l1];rfl
    ·rw[fC,l2,length_append];omega
  ·rintro _ u next ⟨rfl,Ki,e,Fi,i1,rfl,i2,i3,i4⟩
   rw[take_length]at i1 i2;refine ab.f (by simp) ?_;dsimp only;rw[take_length];exact aI u Fi _ e i1 rfl i2 i3 i4
theorem KL{μ:Mem}{k:Nat}{K row:List ByteArray}{F:List Nat}(h:iU μ k K row F)(hl:K.length<=100000)(a:Atom){R:Kq}(hk:R (pB (nB K a)) μ):aa prog 131 [pP k 0,.agg a.pv] μ R:=by
 refine rG.c ?_;refine ab.mk (λhv=>aad h hl a.var ⟨_,rfl,?_⟩) (λhv=>?_)
 ·have:nB K a= !hasB K a.var:=by unfold nB;rw[hv];rfl
  rw[this]at hk;exact hk
 ·have:nB K a=false:=by unfold nB;rw[hv];rfl
  rw[this]at hk;exact hk
end K6
open K6
@[reducible] def EM(fc fa:Fl)(p:Prod):PV:=.agg [pS p.name,.list 7 fc (p.conds.map ae.pv),.list 19 fa (p.bk.map cT.pv)]
@[reducible] def MB(x:Int×Int×List ByteArray):PV:=.az [pI x.1,pI x.2.1,.list 1 .sh (ch x.2.2)]
theorem OI{μ:Mem}(fc fa:Fl)(p:Prod)(hl:bX p.conds)(hs:ah p.conds<=1000000)(ha:p.bk.length<=1000000){R:Kq}(hR:∀μ' q Fr,vQ μ' q (bT p).2.2 Fr->Mv μ μ' [] Fr->R (.az [pI (bT p).1,pI (bT p).2.1,q]) μ'):aa prog 73 [EM fc fa p] μ R:=by
 refine zf.c ?_;have UE:(bT p).2.2=[]->∀μ' a e,Mv μ μ' [] []->(bT p).1=a->(bT p).2.1=e->R (.az [pI a,pI e,.list 1 .nil []]) μ':=λh0 μ' a e hm h1 h2=>by
  have:=hR μ' (.list 1 .nil []) [] (.inl ⟨rfl,h0,rfl⟩) hm;rw[h1,h2]at this;exact this
 refine(ZT .sh .sh p hl hs ha).call ⟨_,_,rfl,ab.mk (λh1=>?_) (λh1=>?_)⟩
 ·have hE:bT p=((cU p).1,(cU p).2,[]):=by unfold bT;rw[h1];rfl
  exact UE (by rw[hE]) _ _ _ (Mv.refl _ _) (by rw[hE]) (by rw[hE])
 have h0:(cU p).2=0:=by simpa using h1
 obtain⟨s1,s2,s3,s4,aI⟩:=wR h0;cases hc:p.conds with
 |nil=>rw[hc]at s1;simp[ah]at s1
 |cons c cs=>
 refine⟨by omega,c.pv,rfl,_,by rw[ae.cH];rfl,ab.mk (λh2=>?_) (λh2=>?_)⟩
 ·have hE:bT p=(0,9,[]):=by unfold bT;rw[h1,hc];simp only[cond_false,List.head?_cons,Option.map_some,Option.getD_some,h2,cond_true]
  exact UE (by rw[hE]) _ _ _ (Mv.refl _ _) (by rw[hE]) (by rw[hE])
 have hE:bT p=match dW p.conds 0 []with
   | .error n=>((n:Int),6,[])
   | .ok K=>match ia K 0 p.bk with
     |some i=>(((ah p.conds+i:Nat):Int),6,[])
     |none=>(-1,0,K):=by
  unfold bT;rw[h1];simp only[cond_false];rw[show(p.conds.head?.map ae.kind).getD 0=c.kind by rw[hc];rfl,h2];rfl
 rw[<- hc];refine gj .nil λμ1 b hb i1 i2=>⟨_,rfl,λk hk=>?_⟩;have hkb:k≠b:=by rintro rfl;exact i1.at_.2 k (by simp) hk
 have hkn:iU (μ1.set k (some (.cells q_ [pP b 0,.list 1 .nil []]))) k [] [] (k::([b]++[])):=by
  refine⟨⟨b,[],_,[b],[],Mem.ao _ _ _,i1.same λx hx=>Mem.ax _ _ ?_,List.Pairwise.nil,λy=>Iff.rfl,le_refl _,.inl ⟨rfl,rfl,rfl⟩,by simpa using hkb,λx hx=>by simp at hx,rfl⟩,le_refl _⟩;rintro rfl;simp at hx;exact hkb hx
 have Xa:Mv μ (μ1.set k (some (.cells q_ [pP b 0,.list 1 .nil []]))) [] (k::([b]++[])):=i2.trans (Mv.set (.inr hk));refine aa.post (VV _ hkn fc p.conds 0 (le_refl _) aI (by simp) (by omega) (λμ2 F2 K e j1 j2 j3 j4 j5=>?_) (λμ2 F2 e j1 j5=>?_))
 ·rw[List.nil_append]at j2 j4;subst j2;obtain⟨μ3,hG,W_,b',L,q,Fs,Fr,m1,_,_,_,_,m6,_,_,hF⟩:=j4.raw;refine⟨μ3,hG,_,_,rfl,ab.f rfl ?_⟩;rw[zero_add]at j3;have j4':iU μ3 k K K F2:=by
   obtain⟨μ4,_,_,_⟩:=j4.raw;exact⟨⟨b',L,q,Fs,Fr,m1,by assumption,by assumption,by assumption,by assumption,.inr m6,by assumption,by assumption,hF⟩,le_refl _⟩
  have Pl:Mv μ μ3 [] F2:=Xa.trans (j5.trans W_);have agU:Mv μ μ3 [] []:=Pl.sub (by simp);refine ak.each (n:=p.bk.length) (by omega) (λi u=>u=μ3/\ia K 0 (p.bk.take i)=none) ⟨rfl,rfl⟩ ?_ ?_
  ·rintro i u next hi ⟨rfl,hf⟩ av
   have hT:=yM hi hf;refine ab.t (by simpa using hi) ⟨by omega,_,aC hi,_,_,_,_,_,_,_,_,_,_,_,_,_,_,_,_,_,_,_,rfl,?_⟩;have Oc:iC K p.bk[i]=true->R (.az [pI (wrap .i64 (((0+ah p.conds:Nat):Int)+(i:Int))),pI 6,.list 1 .nil []]) u:=λhl=>by
    have TC:bT p=(((ah p.conds+i:Nat):Int),6,[]):=by rw[hE,j1];simp only[Bw hi hf hl,zero_add]
    refine UE (by rw[TC]) _ _ _ agU ?_ (by rw[TC]);rw[TC,aD (by omega) (by omega)];simp only;omega
   have EY:iC K p.bk[i]=false->next (wrap .i64 ((i:Int)+1)) u:=λhl=>av _ ⟨rfl,by rw[hT,hl];rfl⟩
   refine KL j4' (by omega) p.bk[i].attr ⟨_,rfl,ab.mk (λa1=>?_) (λa1=>?_)⟩
   ·exact Oc (by unfold iC;rw[a1];rfl)
   refine ab.mk (λa2=>?_) (λa2=>EY (by unfold iC;rw[a1,a2];rfl));refine KL j4' (by omega) p.bk[i].value.a ⟨_,rfl,ab.mk (λa3=>?_) (λa3=>?_)⟩
   ·exact Oc (by unfold iC;rw[a1,a2,a3];rfl)
   refine KL j4' (by omega) p.bk[i].value.b ⟨_,rfl,ab.mk (λa4=>?_) (λa4=>?_)⟩
   ·exact Oc (by unfold iC;rw[a1,a2,a3,a4];rfl)
   ·exact EY (by unfold iC;rw[a1,a2,a3,a4];rfl)
  ·rintro u next ⟨rfl,hf⟩
   rw[take_length]at hf;have TC:bT p=(-1,0,K):=by rw[hE,j1];simp only[hf]
   obtain⟨a,c',rfl,_⟩:=m6.app (cP K);refine ab.f (by simp) ⟨_,_,_,aJ m1 (by simp),?_⟩;have:=hR u _ Fr (by rw[TC];exact .inr m6) (Pl.sub λx hx=>by rw[hF];simp[hx]);rw[TC]at this;exact this
 ·have TC:bT p=((e:Int),6,[]):=by rw[hE,j1]
  exact⟨μ2,GU.refl _,_,_,rfl,ab.t rfl (UE (by rw[TC]) _ _ _ ((Xa.trans j5).sub (by simp)) (by rw[TC]) (by rw[TC]))⟩
theorem SQ(fc fa:Fl)(p:Prod)(hl:bX p.conds)(hs:ah p.conds<=1000000)(ha:p.bk.length<=1000000):Pure prog 73 [EM fc fa p] (MB (bT p)):=by
 refine aa.abR (OI fc fa p hl hs ha λμ' q Fr h hm=>⟨MB (bT p),.az rfl (λd hd=>?_) (λi c d hc hd=>?_),rfl⟩)
 ·simp only[mem_cons,not_mem_nil,or_false]at hd;rcases hd with rfl|rfl|rfl<;>rfl
 ·match i with
  |0=>simp at hc hd;subst hc hd;exact .same _
  |1=>simp at hc hd;subst hc hd;exact .same _
  |2=>simp at hc hd;subst hc hd;exact h.view
  |n+3=>simp at hc
theorem aal(fc fa:Fl)(p:Prod)(hl:bX p.conds)(hs:ah p.conds<=1000000)(ha:p.bk.length<=1000000):Pure prog 21 [EM fc fa p] (.az [pI (bT p).1,pI (bT p).2.1]):=by
 refine au.of (CP.c ?_);exact(SQ .sh .sh p hl hs ha).call ⟨_,_,_,_,rfl,rfl⟩
def JX(p:Prod):Prop:=bX p.conds/\ah p.conds<=40/\p.bk.length<=40/\p.name.size<=100
theorem aac(fc fa:Fl)(p:Prod):au prog 15 [.agg [pS p.name,.list 7 fc (p.conds.map ae.pv),.list 19 fa (p.bk.map cT.pv)]] λr=>∃q:Bool,r=pB q/\(q=false->JX p):=by
 refine au.of (uq.c ?_);have yes:∃q:Bool,wk (pB true)=pB q/\(q=false->JX p):=⟨true,rfl,λh=>by cases h⟩;refine(aaa _ fc p.conds 40 0 (le_refl _) (by omega) (by omega)).call ?_;rintro _ ⟨r,rfl,Ph,DL⟩;refine⟨_,rfl,ab.mk (λ_=>yes) (λa1=>ab.mk (λ_=>yes) (λa2=>ab.mk (λ_=>yes) (λa3=>?_)))⟩;have a1:=of_decide_eq_false a1;have a2:=of_decide_eq_false a2;have a3:=of_decide_eq_false a3;simp only[length_map]at a2;have hs:=DL (by omega);refine(Iw _ fc p.conds (le_refl _) (by omega)).call ?_;rintro _ ⟨q,rfl,hq⟩;exact⟨_,rfl,q,rfl,λh=>⟨hq h,by omega,by omega,by omega⟩⟩
theorem ak.Xw{α γ:Type}{body:(α->γ->Prop)->α->γ->Prop}{s0:α}{u:γ}(n:Nat)(I:Nat->α->γ->Prop)(h0:I 0 s0 u)
  (fE:∀(k:Nat) (s:α) (u:γ) (next:α->γ->Prop),k<n->I k s u->(∀s' u',I (k+1) s' u'->next s' u')->body next s u) (eZ:∀(s:α) (u:γ) (next:α->γ->Prop),I n s u->body next s u):ak body s0 u:=by
 refine⟨λm s w=>∃k,k<=n/\m=n-k/\I k s w,⟨n,0,by omega,rfl,h0⟩,?_⟩;rintro m s w ⟨k,hk,rfl,hI⟩;by_cases h:k<n
 ·exact fE k s w _ h hI λs' u' h'=>⟨n-(k+1),by omega,k+1,by omega,rfl,h'⟩
 ·have:k=n:=by omega
  subst this;exact eZ s w _ hI
theorem Oi{K:List ByteArray}{v:ByteArray}{i:Nat}(hi:i<K.length)(h:hasB (K.take i) v=false)(hn:aF K[i] v=false):hasB (K.take (i+1)) v=false:=by
 unfold hasB at*
 rw[take_add_one,List.any_append,h,getElem?_eq_getElem hi];simp[hn]
theorem SB(fl:Fl)(K:List ByteArray)(v:ByteArray)(hl:K.length<=1000000):Pure prog 140 [.list 1 fl (ch K),pS v] (pB (hasB K v)):=by
 refine au.of (wm.c ?_);refine ak.each (n:=K.length) (by omega) (λi u=>hasB (K.take i) v=false) rfl ?_ ?_
 ·intro i u next hi hI av
  refine ab.t (by simpa using hi) ⟨by omega,_,Hf hi,_,rfl,ab.mk (λh=>?_) (λh=>av _ (Oi hi hI h))⟩;have:hasB K v=true:=qw.2 (by rw[<- bF.1 h];exact getElem_mem hi);rw[this];rfl
 ·intro u next hI
  rw[take_length]at hI;rw[hI];exact ab.f (by simp) rfl
@[reducible] def QG:Option (List ByteArray)->PV
 |none=>.az [.list 1 .sh [],pB false]
 |some K=>.az [.list 1 .sh (ch K),pB true]
theorem uQ(K e:List ByteArray):ch (K++e)=ch K++ch e:=by simp[ch]
theorem Hx{K:List ByteArray}{t:Test}(h:Uz t):rC K t=(bif aF t.var ⟨#[]⟩then some K else bif hasB K t.var then some K else bif t.rel != 1 then none else some (K++[t.var])):=by
 unfold rC pd;cases hv:aF t.var ⟨#[]⟩with
 |true=>simp
 |false=>
  have h8:(t.rel == 8)=false:=by
   cases h8:t.rel == 8 with
   |false=>rfl
   |true=>rw[h (by simpa using h8)]at hv;cases hv
  rw[h8,show(t.rel != 1)= !(t.rel == 1)from rfl];cases hasB K t.var<;>cases t.rel == 1<;>simp
theorem EZ{K:List ByteArray}{a b:List Test}:iu K (a++b)=(iu K a).bind λK1=>iu K1 b:=qk K a b
theorem Lx{fl f1 f2:Fl}{n sz:Nat}{μ μ':Mem}(h:lV fl n sz μ)(hd:∀x∈Jr fl,¬f1.at x)(hk:∀b o,μ b=some o->¬f1.at b->μ' b=some o/\¬f2.at b):lV fl n sz μ'/\∀x∈Jr fl,¬f2.at x:=by
 cases fl with
 |nh b c=>
  have:=hk b _ h (hd b (by simp[Jr]));exact⟨this.1,λx hx=>by simp[Jr]at hx;subst hx;exact this.2⟩
 |sh=>exact⟨h,λx hx=>by simp[Jr]at hx⟩
 |nr=>exact⟨h,λx hx=>by simp[Jr]at hx⟩
 |nil=>exact⟨h,λx hx=>by simp[Jr]at hx⟩
theorem ad4(fl:Fl)(c:ae)(K:List ByteArray)(hc:Pc c)(hl:K.length<=10000):Pure prog 139 [.agg c.pv,.list 1 fl (ch K)] (QG (pe K c)):=by
 obtain⟨_,ha,hv,Ja,NY,_⟩:=(AJ c).1 hc;rw[ae.cH];refine au.of (wh.c ?_);refine aT.Pq (by trivial) (by simp;omega) (by simp;omega) λf1 μ1 t1=>?_;simp only[List.nil_append,length_nil,zero_add,da]at t1 |-;have go:∀(K0:List ByteArray) (f:Fl) (u:Mem),K0.length<=10001->lV f K0.length 1 u->pe K c=(iu K0 c.attr).bind (λK1=>iu K1 c.value)->
   aT true 6 80 .nil [] (c.attr.map Test.pv) u λf26 Gr=>aT false 6 80 f26 (c.attr.map Test.pv) (c.value.map Test.pv) Gr λf29 Lu=>
   ak (α:=(Fl×Lq)×Int) (λnext uz Ww=>
   ab (decide ((uz.2:Int)<((List.length (c.attr.map Test.pv++c.value.map Test.pv):Nat):Int)))
   ((0:Int)<=uz.2/\∃(r38:List PV),(c.attr.map Test.pv++c.value.map Test.pv)[toNat uz.2]?=some r38/\
    ∃(x40:ByteArray),aA r38 1 1=some [(pS x40)]/\
    ab (aF x40 ⟨#[]⟩)
    (next ((uz.1.1,uz.1.2),(wrap .i64 (uz.2+(1)))) Ww)
    ((0:Int)<=uz.2/\∃(r46:List PV),(c.attr.map Test.pv++c.value.map Test.pv)[toNat uz.2]?=some r46/\
     ∃(x48:ByteArray),aA r46 1 1=some [(pS x48)]/\
     aa prog 140 [(.list 1 uz.1.1 uz.1.2),(pS x48)] Ww λPz Wv=>
     ∃(x49:Bool),Pz=(pB x49)/\
     ab x49
     (next ((uz.1.1,uz.1.2),(wrap .i64 (uz.2+(1)))) Wv)
     ((0:Int)<=uz.2/\∃(r53:List PV),(c.attr.map Test.pv++c.value.map Test.pv)[toNat uz.2]?=some r53/\
      ∃(x55:Int),aA r53 0 1=some [(pI x55)]/\
      ab ((x55:Int) != (1))
      (wk (.az [(.list 1 .nil []),(pB false)])=QG (pe K c))
      ((0:Int)<=uz.2/\∃(r60:List PV),(c.attr.map Test.pv++c.value.map Test.pv)[toNat uz.2]?=some r60/\
       ∃(x62:ByteArray),aA r60 1 1=some [(pS x62)]/\
       aT false 1 16 uz.1.1 uz.1.2 [[(pS x62)]] Wv λf64 TO=>
       next ((f64,(uz.1.2++[[(pS x62)]])),(wrap .i64 (uz.2+(1)))) TO))))
   (wk (.az [(.list 1 uz.1.1 uz.1.2),(pB true)])=QG (pe K c))) ((f,ch K0),(0)) Lu:=by
  intro K0 f u hK0 tf hm;rw[<- EZ]at hm;refine aT.go (by trivial) (by simp;omega) (by simp;omega) (λf26 u4 t26 k26=>?_);obtain⟨tf4,d4⟩:=Lx (f1:=.nil) tf (λx _ h=>h) k26;refine aT.go (by simpa using t26) (by simp;omega) (by simp;omega) λf29 u5 t29 k29=>?_;obtain⟨tf5,d5⟩:=Lx tf4 d4 k29;rw[<- map_append];have hlen:(c.attr++c.value).length<=8:=by rw[length_append];omega
  have aI:∀t∈c.attr++c.value,Uz t:=λt ht=>(mem_append.1 ht).elim (Ja t) (NY t);refine ak.dd (n:=(c.attr++c.value).length) (by omega) (λi x u=>∃Ki,x.2=ch Ki/\lV x.1 Ki.length 1 u/\iu K0 ((c.attr++c.value).take i)=some Ki/\Ki.length<=K0.length+i) ⟨K0,rfl,tf5,by simp[iu],by omega⟩ ?_ ?_
  ·rintro i ⟨f,_⟩ u next hi ⟨Ki,rfl,i1,i2,i3⟩ av
   have hT:=xq hi i2;rw[Hx (aI _ (getElem_mem hi))]at hT;refine ab.t (decide_eq_true (by rw[length_map];omega)) ⟨by omega,_,aC hi,_,rfl,ab.mk (λh1=>av _ _ ⟨Ki,rfl,i1,by rw[hT,h1];rfl,by omega⟩) (λh1=>⟨by omega,_,aC hi,_,rfl,?_⟩)⟩;refine(SB f Ki _ (by omega)).call ⟨_,rfl,ab.mk (λh2=>av _ _ ⟨Ki,rfl,i1,by rw[hT,h1,h2];rfl,by omega⟩) (λh2=>⟨by omega,_,aC hi,_,rfl,ab.mk (λh3=>?_) (λh3=>⟨by omega,_,aC hi,_,rfl,?_⟩)⟩)⟩
   ·rw[h1,h2,h3]at hT;have hn:iu K0 (c.attr++c.value)=none:=Dz hi i2 (by rw[Hx (aI _ (getElem_mem hi)),h1,h2,h3];rfl);rw[hm,hn];rfl
   ·rw[h1,h2,h3]at hT;refine aT.Pq (by rw[da];exact i1) (by simp;omega) (by simp;omega) λf' u' t'=>av _ _ ⟨Ki++[(c.attr++c.value)[i].var],?_,?_,hT,by rw[length_append,List.length_singleton];omega⟩
    ·rw[uQ];rfl
    ·simpa using t'
  ·rintro⟨f,_⟩ u next ⟨Ki,rfl,i1,i2,i3⟩
   rw[take_length]at i2;refine ab.f (by rw[length_map];simp) ?_;rw[hm,i2];rfl
 refine cf.of λJ hJ=>(SB f1 K c.id (by omega)).call ⟨_,rfl,ab.mk (λh1=>ab.mk (λh2=>?_) (λh2=>?_)) (λh1=>?_)⟩
 ·have h1:=nb h1;have h2:=nb h2;have:pe K c=none:=by simp[pe,h1,h2]
  rw[this];rfl
 ·have h1:=nb h1;have h2:=nt h2;refine aT.Pq (by rw[da];exact t1) (by simp;omega) (by simp;omega) λf2 μ2 t2=>hJ _ _ ?_
  have:=go (K++[c.id]) f2 μ2 (by simp;omega) (by simpa using t2) (by
   have hh:hasB (K++[c.id]) c.id=true:=qw.2 (by simp)
   simp[pe,h2,pd,h1,hh])
  rw[uQ]at this;exact this
 ·have h1:=nt h1;refine hJ _ _ (go K f1 _ (by omega) t1 ?_);cases hg:c.goal<;>simp[pe,hg,pd,h1]
@[reducible] def YJ:Except Nat (List ByteArray)->PV
 | .error e=>.az [.list 1 .sh [],pI (e:Nat),pB false]
 | .ok K=>.az [.list 1 .sh (ch K),pI (-1),pB true]
theorem Hy{K K':List ByteArray}{c:ae}(hc:Pc c)(h:pe K c=some K'):K'.length<=K.length+9:=by
 obtain⟨_,ha,hv,_,_,_⟩:=(AJ c).1 hc;have hT:∀{K K':List ByteArray} {t:Test},rC K t=some K'->K'.length<=K.length+1:=by
  intro K K' t h;unfold rC at h;have:=vb K t.var;cases h1:(t.rel == 8)||aF t.var ⟨#[]⟩<;>rw[h1]at h
  ·simp only[cond_false]at h;cases h2:t.rel == 1<;>rw[h2]at h
   ·simp only[cond_false]at h;cases h3:hasB K t.var<;>rw[h3]at h
    ·cases h
    ·cases h;omega
   ·cases h;rw[length_append];omega
  ·cases h;omega
 have hL:∀(ts:List Test) {K K':List ByteArray},iu K ts=some K'->K'.length<=K.length+ts.length:=by
  intro ts;induction ts with
  |nil=>intro K K' h;cases h;simp
  |cons t ts ih=>
   intro K K' h;simp only[iu]at h;cases h1:rC K t with
   |none=>rw[h1]at h;cases h
   |some K1=>
    rw[h1]at h;have:=ih h;have:=hT h1;rw[length_cons];omega
 unfold pe at h;have hg:(bif c.goal then K++pd K c.id else K).length<=K.length+1:=by
  have:=vb K c.id;cases c.goal
  ·simp
  ·rw[cond_true,length_append];omega
 generalize hK0:(bif c.goal then K++pd K c.id else K)=K0 at h hg;simp only at h;cases hh:hasB K0 c.id<;>rw[hh]at h
 ·cases h
 ·simp only[cond_true]at h;cases h1:iu K0 c.attr with
  |none=>rw[h1]at h;cases h
  |some K1=>
   rw[h1]at h;have:=hL _ h1;have:=hL _ (show iu K1 c.value=some K' from h);omega
theorem DF:∀{l:List ae} {n:Nat} {K K':List ByteArray},Pb l->dW l n K=.ok K'->K'.length<=K.length+9*ah l
 |[],n,K,K',_,h=>by cases h;simp
 |c::l,n,K,K',ho,h=>by
  simp only[dW]at h
  cases hc:vj c n K with
  |error e=>rw[hc]at h;cases h
  |ok K1=>
   rw[hc]at h
   have h1:=DF ho.2 h
   have h2:K1.length<=K.length+9:=by
    rw[Bc]at hc;cases h3:c.kind == 3<;>rw[h3]at hc
    ·simp only[cond_false]at hc;cases hm:pe K c with
     |none=>rw[hm]at hc;cases hc
     |some K2=>
      rw[hm]at hc;have:=Hy ho.1 hm;cases h4:c.kind == 1<;>rw[h4]at hc<;>cases hc
      ·simp
      ·exact this
    ·simp only[cond_true]at hc;cases hk:dW c.conds (n+1) K with
     |error e=>rw[hk]at hc;cases hc
     |ok K2=>rw[hk]at hc;cases hc;omega
   simp only[ah,bN];omega
theorem Z_:∀(n:Nat) (fl fk:Fl) (l:List ae) (at_:Nat) (K:List ByteArray),ah l<=n->Pb l->K.length<=9*at_->at_+ah l<=1000->Pure prog 79 [.list 7 fl (l.map ae.pv),pI (at_:Nat),.list 1 fk (ch K)] (YJ (dW l at_ K)):=by
 intro n;induction n with
 |zero=>
  intro fl fk l at_ K h _ _ _;have:l=[]:=by
   cases l with
   |nil=>rfl
   |cons c l=>simp[ah,bN]at h
  subst this;refine au.of (kF.c ?_);exact ak.Xw 0 (λk s u=>s=((at_:Int),(fk,ch K),(0:Int))) rfl (λk s u next hk=>by omega) (λs u next hs=>by subst hs;exact ab.f (by simp) rfl)
 |succ n ih=>
  intro fl fk l at_ K h YX hK fw;have rD:=cK l;refine au.of (kF.c ?_);refine ak.Xw l.length (λi s u=>∃f Ki,s=(((at_+ah (l.take i):Nat):Int),(f,ch Ki),(i:Int))/\dW (l.take i) at_ K=.ok Ki/\Ki.length<=9*(at_+ah (l.take i))) ⟨fk,K,by simp[ah],by simp[dW],by simp[ah];omega⟩ ?_ ?_
  ·rintro i _ u next hi ⟨f,Ki,rfl,i1,i2⟩ av
   have hm:=dz (getElem_mem hi);have hs:=jH l (i+1);have fC:=eH hi;rw[fC]at hs;have eb:=LU.1 YX l[i] (getElem_mem hi);obtain⟨Mn,_,_,_,_,Rk⟩:=(AJ _).1 eb;have hT:=tu hi i1;have hC:=Bc l[i] (at_+ah (l.take i)) Ki;have Gy:aA l[i].pv 0 1=some [pI l[i].kind]:=by rw[ae.cH];rfl
   have hk6:aA l[i].pv 6 1=some [.list 7 .sh (l[i].conds.map ae.pv)]:=by rw[ae.cH];rfl
   have d_:aA l[i].pv 0 7=some [pI l[i].kind,pB l[i].goal,pS l[i].id,.list 6 .sh (l[i].attr.map Test.pv),.list 6 .sh (l[i].value.map Test.pv),pB l[i].acc,.list 7 .sh (l[i].conds.map ae.pv)]:=by rw[ae.cH];rfl
   refine ab.t (by simpa using hi) ?_;have RL:wrap .i64 (((at_+ah (l.take i):Nat):Int)+1)=((at_+ah (l.take i)+1:Nat):Int):=by rw[aD (by omega) (by omega)];omega
   have go:∀(f:Fl) (K':List ByteArray) (u':Mem),vj l[i] (at_+ah (l.take i)) Ki=.ok K'->K'.length<=9*(at_+ah (l.take (i+1)))->
     ((0:Int)<=(i:Int)/\∃(r65:List PV),(l.map ae.pv)[toNat (i:Int)]?=some r65/\∃(abj:Fl) (x67:Lq),aA r65 6 1=some [(.list 7 abj x67)]/\
      aa prog 80 [(.list 7 abj x67)] u' λXT Gr=>∃(x68:Int),XT=(pI x68)/\next ((wrap .i64 (((at_+ah (l.take i):Nat):Int)+(wrap .i64 ((1)+x68)))),(f,ch K'),(wrap .i64 ((i:Int)+(1)))) Gr):=by
    intro f K' u' hk hlen;refine⟨by omega,_,aC hi,_,_,hk6,(qF _ .sh l[i].conds (le_refl _) (by omega)).call ⟨_,rfl,av _ _ ⟨f,K',?_,by rw[hT,hk],hlen⟩⟩⟩;rw[aD (x:=(1:Int)+_) (by omega) (by omega),aD (x:=((at_+ah (l.take i):Nat):Int)+_) (by omega) (by omega),aD (x:=(i:Int)+1) (by omega) (by omega),fC];congr 1;omega
   refine cf.of λJ hJ=>⟨natCast_nonneg i,_,aC hi,_,Gy,ab.mk (λh3=>?_) (λh3=>?_)⟩
   ·rw[h3]at hC;refine⟨natCast_nonneg i,_,aC hi,_,_,hk6,?_⟩;dsimp only;rw[RL];refine(ih .sh f l[i].conds (at_+ah (l.take i)+1) Ki (by omega) Rk (by omega) (by omega)).call ?_;cases hr:dW l[i].conds (at_+ah (l.take i)+1) Ki with
    |error e=>
     refine⟨_,_,_,_,rfl,ab.t rfl ?_⟩;rw[lI hi i1 (e:=e) (by rw[hC,hr];rfl)];rfl
    |ok K'=>
     refine⟨_,_,_,_,rfl,ab.f rfl (hJ _ _ (go f Ki _ (by rw[hC,hr];rfl) ?_))⟩;rw[fC];omega
   ·rw[h3]at hC;have oB:l[i].conds.length=0:=by
     rcases Mn with h|h
     ·rw[h]at h3;simp at h3
     ·exact h.2
    have kZ:PV.agg [pI l[i].kind,pB l[i].goal,pS l[i].id,.list 6 .sh (l[i].attr.map Test.pv),.list 6 .sh (l[i].value.map Test.pv),pB l[i].acc,.list 7 .sh (l[i].conds.map ae.pv)]=.agg l[i].pv:=by rw[ae.cH]
    refine⟨natCast_nonneg i,_,aC hi,_,_,_,_,_,_,_,_,_,_,d_,?_⟩;rw[kZ];refine(ad4 f l[i] Ki eb (by omega)).call ?_;cases hr:pe Ki l[i]with
    |none=>
     refine⟨_,_,_,rfl,ab.t rfl ?_⟩;rw[lI hi i1 (e:=at_+ah (l.take i)) (by rw[hC,hr];rfl)];rfl
    |some K'=>
     have pG:=Hy eb hr;refine⟨_,_,_,rfl,ab.f rfl ⟨natCast_nonneg i,_,aC hi,_,Gy,ab.mk (λh1=>hJ _ _ (go _ K' _ ?_ ?_)) (λh1=>hJ _ _ (go f Ki _ ?_ ?_))⟩⟩
     ·rw[hC,hr,h1];rfl
     ·rw[fC];omega
     ·rw[hC,hr,h1];rfl
     ·rw[fC];omega
  ·rintro _ u next ⟨f,Ki,rfl,i1,i2⟩
   rw[take_length]at i1;refine ab.f (by simp) ?_;rw[i1];rfl
theorem Sz(fl:Fl)(a:Atom)(K:List ByteArray)(hl:K.length<=1000000):Pure prog 81 [.agg a.pv,.list 1 fl (ch K)] (pB (!nB K a)):=by
 refine au.of (ud.c ?_);refine ab.mk (λh=>?_) (λh=>(SB fl K a.var hl).call ⟨_,rfl,?_⟩)
 ·have:nB K a=false:=by unfold nB;rw[h];rfl
  rw[this];rfl
 ·have:nB K a= !hasB K a.var:=by unfold nB;rw[h];rfl
  rw[this,not_not];rfl
theorem VR(fc fa:Fl)(p:Prod)(hl:bX p.conds)(hs:ah p.conds<=1000000)(ha:p.bk.length<=1000000):Pure prog 26 [EM fc fa p] (.az [pI (bT p).1,pI (bT p).2.1]):=by
 refine au.of (rQ.c ?_);refine(OD .sh .sh p hl hs ha).call ⟨_,_,rfl,ab.mk (λh1=>?_) (λh1=>?_)⟩
 ·unfold bT;rw[h1];rfl
 have h0:(cU p).2=0:=by simpa using h1
 obtain⟨s1,s2,s3,s4,aI⟩:=wR h0;cases hc:p.conds with
 |nil=>rw[hc]at s1;simp[ah]at s1
 |cons c cs=>
 refine⟨by omega,c.pv,rfl,_,by rw[ae.cH];rfl,ab.mk (λh2=>?_) (λh2=>?_)⟩
 ·unfold bT;rw[h1,hc];simp only[cond_false,List.head?_cons,Option.map_some,Option.getD_some,h2,cond_true];rfl
 have hE:bT p=match dW p.conds 0 []with
   | .error n=>((n:Int),6,[])
   | .ok K=>match ia K 0 p.bk with
     |some i=>(((ah p.conds+i:Nat):Int),6,[])
     |none=>(-1,0,K):=by
  unfold bT;rw[h1];simp only[cond_false];rw[show(p.conds.head?.map ae.kind).getD 0=c.kind by rw[hc];rfl,h2];rfl
 rw[<- hc];refine(Z_ _ fc .nil p.conds 0 [] (le_refl _) aI (by simp) (by omega)).call ?_;cases hk:dW p.conds 0 []with
 |error e=>
  refine⟨_,_,_,_,rfl,ab.t rfl ?_⟩;rw[hE,hk];rfl
 |ok K=>
  have hKl:K.length<=1000:=by have:=DF aI hk;simp at this;omega
  refine⟨_,_,_,_,rfl,ab.f rfl ((qF _ fc p.conds (le_refl _) hs).call ⟨_,rfl,?_⟩)⟩;refine ak.each (n:=p.bk.length) (by omega) (λi u=>ia K 0 (p.bk.take i)=none) rfl ?_ ?_
  ·rintro i u next hi hf av
   have hT:=yM hi hf;refine ab.t (by simpa using hi) ⟨by omega,_,aC hi,_,_,_,_,_,_,_,_,_,_,_,_,_,_,_,_,_,_,_,rfl,?_⟩;have Oc:iC K p.bk[i]=true->wk (.az [pI (wrap .i64 (((ah p.conds:Nat):Int)+(i:Int))),pI 6])=.az [pI (bT p).1,pI (bT p).2.1]:=λhl=>by
    rw[hE,hk];simp only[Bw hi hf hl,zero_add];rw[aD (by omega) (by omega)];rfl
   have EY:iC K p.bk[i]=false->next (wrap .i64 ((i:Int)+1)) u:=λhl=>av _ (by rw[hT,hl];rfl)
   refine(Sz .sh p.bk[i].attr K (by omega)).call ⟨_,rfl,ab.mk (λa1=>?_) (λa1=>?_)⟩
   ·rw[not_not]at a1;exact Oc (by unfold iC;rw[a1];rfl)
   rw[not_not]at a1;refine ab.mk (λa2=>?_) (λa2=>EY (by unfold iC;rw[a1,a2];rfl));refine(Sz .sh p.bk[i].value.a K (by omega)).call ⟨_,rfl,ab.mk (λa3=>?_) (λa3=>?_)⟩
   ·rw[not_not]at a3;exact Oc (by unfold iC;rw[a1,a2,a3];rfl)
   rw[not_not]at a3;refine(Sz .sh p.bk[i].value.b K (by omega)).call ⟨_,rfl,ab.mk (λa4=>?_) (λa4=>?_)⟩
   ·rw[not_not]at a4;exact Oc (by unfold iC;rw[a1,a2,a3,a4];rfl)
   ·rw[not_not]at a4;exact EY (by unfold iC;rw[a1,a2,a3,a4];rfl)
  ·rintro u next hf
   rw[take_length]at hf;refine ab.f (by simp) ?_;rw[hE,hk];simp only[hf];rfl
theorem D_{p:Prod}(h:(bT p).2.1=0):(cU p).2=0/\dW p.conds 0 []=.ok (bT p).2.2:=by
 unfold bT at h |-;cases h1:(cU p).2 != 0<;>rw[h1]at h
 ·have h0:(cU p).2=0:=by simpa using h1
  refine⟨h0,?_⟩;simp only[cond_false]at h |-;cases h2:(p.conds.head?.map ae.kind).getD 0 != 1<;>rw[h2]at h
  ·simp only[cond_false]at h |-;cases hk:dW p.conds 0 []with
   |error e=>rw[hk]at h;simp at h
   |ok K=>
    rw[hk]at h;simp only at h |-;cases hf:ia K 0 p.bk with
    |some i=>rw[hf]at h;simp at h
    |none=>rfl
  ·simp at h
 ·simp only[cond_true]at h;simp[h]at h1
theorem ZS(f:Fl)(l:List ae)(hs:ah l<=1000000):Pure prog 237 [.list 7 f (l.map ae.pv)] (pI (ah l:Nat)):=by
 refine au.of (Gj.c ?_);refine aa.mono (MC (.func 282) [] [] trivial (λ_ _=>True) (λ_=>False) _ f l 0 0 0 _ (le_refl _) (by omega) (by omega) trivial λk x μ hx _=>?_) ?_
 ·show aa _ _ _ _ _;rw[ae.cH];exact BU.c (.inl ⟨rfl,trivial⟩)
 ·rintro v μ (⟨rfl,_⟩|⟨x,_,h⟩)
  ·refine⟨_,_,rfl,?_⟩;rw[zero_add];rfl
  ·exact h.elim
@[reducible] def Xv(l:List ae):PV:=.fn (.func 223) [] [.bj [.list 7 .sh (l.map ae.pv)] 0]
theorem aeb(f:Fl)(l:List ae):Pure prog 165 [.list 7 f (l.map ae.pv)] (Xv l):=au.of (Gk.c rfl)
theorem Ue(l:List ae)(hs:ah l<=1000000):Tp prog (Xv l) ((cX l 0 0).map λx=>[pI (x.1:Nat),.agg x.2.2.pv]):=by
 refine Tp.mk λfy ya yb I S μ hy h0 cO=>?_;show aa _ _ [.fn fy ya yb,.bj [.list 7 .sh (l.map ae.pv)] 0] _ _;refine BV.c ⟨_,_,rfl,?_⟩;refine aa.mono (MC (.func 224) [] [.bj [.fn fy ya yb] 0] trivial I S _ .sh l 0 0 0 _ (le_refl _) (by omega) (by omega) h0 λk x μ hx hI=>?_) ?_
 ·have hk:k<(cX l 0 0).length:=(List.getElem?_eq_some_iff.1 hx).1;have hxe:(cX l 0 0)[k]=x:=(List.getElem?_eq_some_iff.1 hx).2;rw[zero_add]at hI |-;have:=cO k (by simpa using hk) μ hI;simp only[getElem_map,hxe]at this;show aa _ _ _ _ _;rw[ae.cH]at this |-;refine xV.c ⟨_,_,_,rfl,bJ.mono this ?_⟩;rintro v μ' (⟨rfl,h⟩|⟨rfl,h⟩)
  ·exact⟨_,rfl,.inl ⟨rfl,h⟩⟩
  ·exact⟨_,rfl,.inr ⟨rfl,h⟩⟩
 ·rintro v μ' (⟨rfl,h⟩|⟨x,rfl,h⟩)
  ·refine⟨_,_,rfl,.inl ?_⟩;rw[zero_add]at h;rw[length_map,ns];exact h
  ·exact⟨_,_,rfl,.inr h⟩
end Go.Proofs.YtbodiiomcfgokaaGreat
namespace Go.aP
open Go.RowKit
def jy(b:Nat)(T:TypeId)(sz:Nat)(rows:Lq):aR:=λμ=>∃f,Ow [Pt b T [.list sz f rows],e_ f rows.length sz] μ
theorem jy.new{b:Nat}{T:TypeId}{sz:Nat}{L:List aR}{μ:Mem}(h:Ow (Pt b T [.list sz .nil []]::L) μ):Ow (jy b T sz []::L) μ:=by
 have h1:Ow ([Pt b T [.list sz .nil []],e_ .nil 0 sz]++L) μ:=h.tail λ_ h=>h.nil (.inl rfl);exact h1.pack.imp λ_ h=>⟨.nil,h⟩
theorem jy.rd{L:List aR}{μ:Mem}(i:Nat){b:Nat}{T:TypeId}{sz:Nat}{rows:Lq}(hO:Ow L μ)(hi:L[i]?=some (jy b T sz rows)):∃f,ay μ b 0 1=some [.list sz f rows]:=by
 obtain⟨f,h⟩:=Ow.ex (Ow.at i hi hO);exact⟨f,(h.nest (L1:=[Pt b T [.list sz f rows],e_ f rows.length sz])).rd 0 rfl (by simp)⟩
theorem jy.go{L:List aR}{μ:Mem}(i:Nat){b:Nat}{T:TypeId}{sz bytes:Nat}{rows new:Lq}{K:Mem->Prop}(hO:Ow L μ)(hi:L[i]?=some (jy b T sz rows))(hb:(rows.length+new.length)*bytes<=140737488355328)(pJ:rows.length+new.length<4611686018427387904)
  (hk:∀μ',Ow (L.set i (jy b T sz (rows++new))) μ'->K μ'):∃(f:Fl) (rs:Lq),ay μ b 0 1=some [.list sz f rs]/\aT false sz bytes f rs new μ λf' u=>stM b 0 [.list sz f' (rs++new)] u λu'=>K u':=by
 obtain⟨f,h⟩:=Ow.ex (Ow.at i hi hO);have h1:Ow (Pt b T [.list sz f rows]::e_ f rows.length sz::L.eraseIdx i) μ:=h.nest (L1:=[Pt b T [.list sz f rows],e_ f rows.length sz]);refine⟨f,rows,h1.rd 0 rfl (by simp),Ow.app h1.swap rfl hb pJ λf' u h2=>?_⟩;refine h2.st 1 rfl (by simp) λu' h3=>hk u' (Ow.back i (rk hi) ?_);have h4:Ow (e_ f' (rows.length+new.length) sz::Pt b T [.list sz f' (rows++new)]::L.eraseIdx i) u':=h3;have h5:Ow ([Pt b T [.list sz f' (rows++new)],e_ f' (rows++new).length sz]++L.eraseIdx i) u':=by
  rw[length_append];exact h4.swap
 exact h5.pack.imp λ_ h=>⟨f',h⟩
theorem jy.end_{L:List aR}{μ:Mem}(i:Nat){b:Nat}{T:TypeId}{sz:Nat}{rows:Lq}(hO:Ow L μ)(hi:L[i]?=some (jy b T sz rows)):∃f,Ow (L.set i (Pt b T [.list sz f rows])) μ:=by
 obtain⟨f,h⟩:=Ow.ex (Ow.at i hi hO);have h1:Ow (Pt b T [.list sz f rows]::e_ f rows.length sz::L.eraseIdx i) μ:=h.nest (L1:=[Pt b T [.list sz f rows],e_ f rows.length sz]);exact⟨f,Ow.back i (rk hi) (h1.tail λ_ h=>h.drop)⟩
theorem Ow.aas{L:List aR}{μ:Mem}{q:Bool}{size bytes:Nat}{rows new:Lq}{K:Fl->Mem->Prop}(hO:Ow L μ)(hb:(rows.length+new.length)*bytes<=140737488355328)(pJ:rows.length+new.length<4611686018427387904)
  (hk:∀jZ μ',Ow L μ'->K jZ μ'):aT q size bytes .nr rows new μ K:=
 aT.go (fl:=.nr) trivial hb pJ (λjZ μ' _ h=>hk jZ μ' (hO.mono λb o hb=>(h b o hb id).1)) (λ_ b c h=>by cases h)
theorem Ow.afP{L:List aR}{μ:Mem}{b:Nat}{e:TypeId}{sz:Nat}{rows:Lq}(h:Ow (Pt b e rows.flatten::L) μ):Ow (cA e sz (.raw (.slice (some ⟨b,0,none⟩) rows.length rows.length)) rows::L) μ:=
 h.imp λν hν=>⟨[b],.inr ⟨b,rows.length,[],rfl,rfl,by rw[append_nil];exact hν,by simp,le_refl _⟩⟩
theorem cA.frz{e:TypeId}{sz:Nat}{p:PV}{rows:Lq}{L:List aR}{μ:Mem}(hO:Ow (cA e sz p rows::L) μ)(hr:∀r∈rows,r.length=sz)(hc:aU rows.flatten=true):
  ∃(mR:Mem) (bs:List Nat),(∀b o,mR b=some o->μ b=some o/\b∉bs)/\Ow L mR/\gy (λb=>if b∈bs then μ b else none) p (.list sz .sh rows):=by
 obtain⟨F,h,μ1,μ2,hs,rfl,hF,hL⟩:=cA.split hO;refine⟨μ2,F,λb o hb=>?_,hL,?_⟩
 ·have h1:μ1 b=none:=(hs b).resolve_right (by rw[hb];simp);exact⟨by rw[Mem.bH h1];exact hb,λhf=>hF b hf h1⟩
 ·have h2:vR e sz (λb=>if b∈F then(μ1.or μ2) b else none) p rows F:=h.same λx hx=>by simp[hx]
  exact h2.view hr hc
theorem aa.ah2{P:Program}{g:FuncId}{args:List PV}{μ:Mem}{K K':Kq}(h:aa P g args μ K)(hk:∀v μ',K v μ'->∃(v':PV) (mR:Mem) (bs:List Nat),gy (λb=>if b∈bs then μ' b else none) v v'/\(∀b o,mR b=some o->μ' b=some o/\b∉bs)/\K' v' mR):aa P g args μ K':=
 h.freeze λv μ' hK=>by
  obtain⟨v',mR,bs,h1,h2,h3⟩:=hk v μ' hK;refine⟨v',mR,bs,λZ u r hg hr=>?_,h2,h3⟩;refine h1.rep (hg.sub λb o hb=>?_) hr;by_cases hm:b∈bs
  ·rw[if_pos hm]at hb;exact hb
  ·rw[if_neg hm]at hb;cases hb
def Ux:List Nat->List aR->List aR
 |[],L=>L
 |i::is,L=>match L[i]? with|some A=>A::Ux is (L.eraseIdx i)|none=>Ux is L
theorem Ow.ord:∀(is:List Nat) {L:List aR} {μ:Mem},Ow L μ->Ow (Ux is L) μ
 |[],_,_,h=>h
 |i::is,L,μ,h=>by
  unfold Ux
  split
  ·rename_i A hA
   exact(Ow.at i hA h).tail λ_ h'=>Ow.ord is h'
  ·exact Ow.ord is h
theorem jy.open_{L:List aR}{μ:Mem}(i:Nat){b:Nat}{T:TypeId}{sz:Nat}{rows:Lq}(hO:Ow L μ)(hi:L[i]?=some (jy b T sz rows)):∃f,Ow (Pt b T [.list sz f rows]::e_ f rows.length sz::L.eraseIdx i) μ:=by
 obtain⟨f,h⟩:=Ow.ex (Ow.at i hi hO);exact⟨f,h.nest (L1:=[Pt b T [.list sz f rows],e_ f rows.length sz])⟩
theorem jy.shut{L:List aR}{μ:Mem}{b:Nat}{T:TypeId}{sz n:Nat}{f:Fl}{rows:Lq}(h:Ow (e_ f n sz::Pt b T [.list sz f rows]::L) μ)(hn:n=rows.length):Ow (jy b T sz rows::L) μ:=by
 subst hn;have h5:Ow ([Pt b T [.list sz f rows],e_ f rows.length sz]++L) μ:=h.swap;exact h5.pack.imp λ_ h=>⟨f,h⟩
theorem oW{α:Type}(f:α->PV)(xs:List α):(xs.map λx=>[f x]).flatten=xs.map f:=by
 induction xs with
 |nil=>rfl
 |cons x xs ih=>simp only[map_cons,List.flatten_cons,ih];rfl
theorem cA.cut{α:Type}{f:α->PV}{e:TypeId}{xs:List α}{L:List aR}{μ:Mem}{a:Option Addr}{n c:Nat}(hO:Ow (cA e 1 (.raw (.slice a n c)) (xs.map λx=>[f x])::L) μ)(hf:∀x,(f x).cell=true){k:Nat}(hk:k<xs.length)(jO:xs.length<=1000000){K:Option Addr->Nat->Nat->Mem->Prop}
  (hK:∀μ',Ow (cA e 1 (.raw (.slice a (xs.length-1) c)) ((xs.eraseIdx k).map λx=>[f x])::L) μ'->K a (xs.length-1) c μ'):
  gZ a/\n=xs.length/\n<=c/\fA 1 8 e (yY a 0 c 1) k c (.raw (.slice (yY a (k+1) c 1) (n-(k+1)) (c-(k+1)))) μ K:=by
 obtain⟨F,h,DJ⟩:=cA.split hO;rcases h with⟨_,h2,_⟩|⟨b,c',rest,h1,rfl,hb,hl,hc⟩
 ·have:=congrArg List.length h2;simp at this;subst this;simp at hk
 ·rw[length_map]at h1 hl hc;obtain⟨rfl,rfl,rfl⟩:a=some ⟨b,0,none⟩/\n=xs.length/\c=c':=by
   simp only[PV.raw.injEq,Value.slice.injEq]at h1;exact h1
  rw[oW]at hb;refine⟨λy hy=>by cases hy;rfl,rfl,hc,?_⟩;have e0:yY (some ⟨b,0,none⟩) 0 c 1=some ⟨b,0,none⟩:=by
   unfold yY;split
   ·rfl
   ·simp
  obtain⟨o,ho,e1⟩:∃o,(o=k+1\/(o=0/\xs.length=k+1))/\yY (some ⟨b,0,none⟩) (k+1) c 1=some ⟨b,o,none⟩:=by
   unfold yY;by_cases e:c=k+1
   ·rw[if_pos e];exact⟨0,.inr ⟨rfl,by omega⟩,rfl⟩
   ·rw[if_neg e];exact⟨k+1,.inl rfl,by simp⟩
  rw[e0,e1];have hlen:(xs.map f++rest).length=c:=by simp;omega
  have her:(xs.eraseIdx k).length=xs.length-1:=by rw[List.length_eraseIdx,if_pos hk]
  have YP:xs=xs.take k++xs[k]::xs.drop (k+1):=by simp
  have adq:xs.eraseIdx k=xs.take k++xs.drop (k+1):=List.eraseIdx_eq_take_drop_succ xs k;refine⟨((xs.map f++rest).drop o).take ((xs.length-(k+1))*1),aJ hb (by rw[hlen];rcases ho with rfl|⟨rfl,h⟩<;>omega),by omega,by omega,by omega,?_⟩;by_cases hm:xs.length-(k+1)=0
  ·left;refine⟨hm,λ_=>⟨b,0,_,rfl,aJ hb (by rw[hlen];omega)⟩,?_⟩;have hke:k=xs.length-1:=by omega
   have:K (some ⟨b,0,none⟩) (xs.length-1) c μ:=by
    refine hK μ ?_;refine Ow.mv (A:=λ_=>True) DJ (Mv.refl _ _) λν hν=>⟨[b],.inr ⟨b,c,f xs[k]::rest,by rw[length_map,her],rfl,?_,?_,?_⟩⟩
    ·rw[hν b (by simp),hb,oW,adq];have hd:xs.drop (k+1)=[]:=List.drop_eq_nil_of_le (by omega);rw[hd,append_nil]
     conv=>lhs;rw[YP,hd]
     rw[map_append,append_assoc];rfl
    ·rw[length_map,her,length_cons];omega
    ·rw[length_map,her];omega
   rw[<- hke]at this;exact this
  ·right;have aI:o=k+1:=by rcases ho with h|⟨_,h⟩<;>omega
   subst aI;have jq:((xs.map f++rest).drop (k+1)).take ((xs.length-(k+1))*1)=(xs.drop (k+1)).map f:=by
    rw[List.drop_append_of_le_length (by simp;omega),Nat.mul_one,List.take_append_of_le_length (by simp),<- List.map_drop,List.take_of_length_le (by simp)]
   rw[jq];refine⟨hm,?_,λ_=>⟨b,0,_,_,rfl,hb,by rw[hlen];omega,?_⟩,λh=>by omega⟩
   ·rw[aU,all_eq_true];intro p hp;obtain⟨x,_,rfl⟩:=mem_map.1 hp;exact hf x
   ·have ekm:k+(xs.length-(k+1))=xs.length-1:=by omega
    rw[ekm];refine hK _ (Ow.mv (A:=λ_=>True) DJ (Mv.set (.inl (by simp))) λν hν=>⟨[b],.inr ⟨b,c,((xs.map f).drop (xs.length-1))++rest,by rw[length_map,her],rfl,?_,?_,?_⟩⟩)
    ·rw[hν b (by simp),Mem.ao,oW,adq];congr 2;unfold dx;rw[zero_add,Nat.mul_one,List.take_append_of_le_length (by simp;omega),length_map,List.length_drop,List.drop_append_of_le_length (by simp;omega),ekm,map_append,List.map_take,append_assoc]
    ·rw[length_map,her,length_append,List.length_drop,length_map];omega
    ·rw[length_map,her];omega
theorem ak.adX{γ:Type}{body:(Int->γ->Prop)->Int->γ->Prop}{u:γ}(n:Nat)(I:Nat->γ->Prop)(h0:I n u)
  (fE:∀(k:Nat) (u:γ) (next:Int->γ->Prop),k<n->I (k+1) u->(∀u',I k u'->next ((k:Int)-1) u')->body next (k:Int) u) (eZ:∀(u:γ) (next:Int->γ->Prop),I 0 u->body next (-1) u):ak body ((n:Int)-1) u:=by
 refine⟨λm s u=>s=(m:Int)-1/\m<=n/\I m u,⟨n,rfl,le_refl _,h0⟩,?_⟩;rintro m s u ⟨rfl,hm,hI⟩;cases m with
 |zero=>exact eZ u _ hI
 |succ k=>
  have e:((k+1:Nat):Int)-1=(k:Int):=by omega
  rw[e];exact fE k u _ (by omega) hI λu' dG=>⟨k,by omega,rfl,by omega,dG⟩
end Go.aP
namespace Go.Proofs.YtbodiiomcfgokaaGreat
open Go.Proofs.Tryz Go.aP Go.RowKit K6
theorem uZ(X Y L:List aR){μ:Mem}(h:Ow (X++(Y++L)) μ):Ow (Y++(X++L)) μ:=h.perm (by
 rw[<- append_assoc,<- append_assoc]
 exact List.perm_append_comm.append_right L)
@[reducible] def ab4(b:List aP.Bind):List PV:=[.list 4 .sh (b.map Bind.pv)]
def fO(rows:List (List aP.Bind)):Lq:=rows.map ab4
mutual
def ki(ms:dg)(aB:List Int):Nat->ae->Prop
 |at_,.mk k g i a v ac cs=>at_<aB.length/\(if k=1\/k=2 then(∀h:at_<aB.length,dB ms aB[at_] (.mk k g i a v ac cs))/\i≠⟨#[]⟩else vA ms aB (at_+1) cs)
def vA(ms:dg)(aB:List Int):Nat->List ae->Prop
 |_,[]=>True
 |at_,c::cs=>ki ms aB at_ c/\vA ms aB (at_+aO c) cs
end
theorem vB(ms:dg)(aB:List Int)(a:Nat)(c:ae):ki ms aB a c↔a<aB.length/\(if c.kind=1\/c.kind=2 then(∀h:a<aB.length,dB ms aB[a] c)/\c.id≠⟨#[]⟩else vA ms aB (a+1) c.conds):=by cases c;rfl
theorem Ij{ms:dg}{aB:List Int}:∀{l:List ae} {a i:Nat} (hi:i<l.length),vA ms aB a l->ki ms aB (a+ah (l.take i)) l[i]
 |c::cs,a,0,_,h=>by simpa[ah]using h.1
 |c::cs,a,i+1,hi,h=>by
  have:=Ij (l:=cs) (a:=a+aO c) (i:=i) (by simpa using hi) h.2
  simp only[List.take_succ_cons,ah,List.getElem_cons_succ];rw[<- add_assoc];exact this
theorem PA{cv:Nat->Nat}{a m:Nat}{f:Nat->Nat}(h0:f 0=m)(h1:∀j,f (j+1)=0):my cv a (cv a+m)=λj=>cv j+sh a f j:=by
 funext j;unfold my sh;by_cases e:j=a
 ·subst e;rw[if_pos rfl,if_pos (le_refl _),Nat.sub_self,h0]
 ·rw[if_neg e];by_cases h:a<=j
  ·rw[if_pos h];obtain⟨q,hq⟩:∃q,j-a=q+1:=⟨j-a-1,by omega⟩;rw[hq,h1];rfl
  ·rw[if_neg h];rfl
mutual
def tc:ae->Prop
 | .mk k g i a v ac cs=>cW (.mk k g i a v ac cs)/\((k=1\/k=2)->i≠⟨#[]⟩)/\ta cs
def ta:List ae->Prop
 |[]=>True
 |c::cs=>tc c/\ta cs
end
theorem mG(c:ae):tc c↔cW c/\((c.kind=1\/c.kind=2)->c.id≠⟨#[]⟩)/\ta c.conds:=by cases c;rfl
theorem lC{l:List ae}:ta l↔∀c∈l,tc c:=by
 induction l with
 |nil=>simp[ta]
 |cons c l ih=>simp[ta,ih]
theorem oc{l:List ae}(h:ta l):bX l:=cE.2 λc hc=>((mG c).1 (lC.1 h c hc)).1
theorem SY(rows:List (List aP.Bind)){k:Nat}(hk:k<rows.length):(fO rows)[toNat (k:Int)]?=some (ab4 rows[k]):=aC hk
theorem Dl(a b:List (List aP.Bind)):fO (a++b)=fO a++fO b:=map_append
theorem ij(a:List (List aP.Bind)):(fO a).length=a.length:=length_map _
theorem xL{es:List aj}{c:ae}(b:List aP.Bind)(h:c.kind=1\/c.kind=2)(j:Nat):cC es c b (j+1)=0:=by rw[vM,if_pos h]
theorem JC(a:Nat)(es:List aj)(r:List (List aP.Bind))(j:Nat):sh a (cL es [] r) j=0:=by unfold sh;split<;>rfl
theorem SS{es:List aj}{c:ae}{b:List aP.Bind}(h:¬(c.kind=1\/c.kind=2))(a j:Nat):sh a (cC es c b) j=(if j=a then(iQ es c b).length else 0)+sh (a+1) (cL es c.conds [b]) j:=by
 unfold sh;by_cases e:j=a
 ·subst e;rw[if_pos (le_refl _),Nat.sub_self,oF,if_pos rfl,if_neg (by omega)];rfl
 ·rw[if_neg e];by_cases h1:a<=j
  ·rw[if_pos h1,if_pos (by omega)];obtain⟨q,hq⟩:∃q,j-a=q+1:=⟨j-a-1,by omega⟩;rw[hq,vM,if_neg h,show j-(a+1)=q from by omega];omega
  ·rw[if_neg h1,if_neg (by omega)]
theorem GR{es:List aj}{c:ae}{rows:List (List aP.Bind)}{k:Nat}(hk:k<rows.length)(a j:Nat):sh a (dm es c (rows.take (k+1))) j=sh a (dm es c (rows.take k)) j+sh a (cC es c rows[k]) j:=by
 rw[<- JD];exact uK (λq=>Nh es c hk q) j
theorem FB{α β:Type}{f:α->List β}{l:List α}{k:Nat}(hk:k<l.length):(l.take (k+1)).flatMap f=(l.take k).flatMap f++f l[k]:=by
 rw[take_add_one,getElem?_eq_getElem hk,List.flatMap_append];simp
section
variable {w:Nat} {W:WC} {x:NC} {es:List aj} {ms:dg} {ids:pq}
theorem EN{b4 b7 b8 b9:Nat}{cv:Nat->Nat}{pa:PV}{B:aR}{L:List aR}{u:Mem}{R:Kq}
  (h:Ow (Pt w 266 W.pv::eF W cv::an W.n x es ms ids::B::Pt b9 4 [pB false]::Pt b8 274 [.list 1 .nil []]::Pt b7 3 [pa]::Pt b4 264 [pP w 0]::L) u)
  (hR:∀μ',Ow (Pt w 266 W.pv::eF W cv::an W.n x es ms ids::L) μ'->R (.az [.list 1 .nil [],pB false]) μ'):
  stM b8 0 [(.list 1 .nil [])] u λWv=>stM b9 0 [(pB false)] Wv λTO=>∃(r0f:Fl) (r0:Lq),ay TO b8 0 1=some [(.list 1 r0f r0)]/\∃(r1:Bool),ay TO b9 0 1=some [(pB r1)]/\R (.az [(.list 1 r0f r0),(pB r1)]) TO:=by
 refine h.st 5 rfl (by simp) λu1 h1=>h1.st 4 rfl (by simp) λu2 h2=>?_;refine⟨_,_,h2.rd 5 rfl (by simp[dx]),_,h2.rd 4 rfl (by simp[dx]),?_⟩;exact hR u2 (h2.tail λ_ h=>h.tail λ_ h=>h.tail λ_ h=>h.drop.drop.drop.drop.drop)
theorem cOn(hA:dr es ms)(hI:iV es ids)(hT:0<=x.T/\x.T<=1000000)(hN:W.aB.length=W.N):∀(n:Nat) (l:List ae) (f fl:Fl) (b:List aP.Bind) (a:Nat) (cv:Nat->Nat) {L:List aR} {μ:Mem},ah l<=n->ta l->vA ms W.aB a l->a+ah l<=1000->(∀j,((cv j:Nat):Int)<=x.T)->b.length+100*ah l<=900000->
  Ow (Pt w 266 W.pv::eF W cv::an W.n x es ms ids::L) μ->∀{K:Kq},
  ((∀j,((cv j+sh a (cL es l [b]) j:Nat):Int)<=x.T)->∀f μ',Ow (Pt w 266 W.pv::eF W (λj=>cv j+sh a (cL es l [b]) j)::an W.n x es ms ids::L) μ'->K (.az [.list 1 f (fO (jz es l [b])),pB true]) μ')->
  ((∃j,x.T<((cv j+sh a (cL es l [b]) j:Nat):Int))->∀ph μ',Ow (Pt w 266 W.pv::eF W ph::an W.n x es ms ids::L) μ'->K (.az [.list 1 .nil [],pB false]) μ')->
  aa prog 170 [pP w 0,.list 7 f (l.map ae.pv),.list 4 fl (b.map Bind.pv),pI ((a:Nat):Int)] μ K:=by
 intro n;induction n using Nat.strongRecOn with
 |ind n ih=>
 intro l f fl b a cv L μ hs aI tE ha hcv hb hO K h1 h0;have rD:=cK l;have Kk:=oc aI;obtain⟨hT0,hT1⟩:=hT;refine BW.c λb4 Gz b7 HX b8 Oh b9 Zu=>?_;have O1:=(((hO.new 264 [pP w 0] Gz).new 3 [pI ((a:Nat):Int)] HX).new 274 [.list 1 .nil []] Oh).new 4 [pB false] Zu;have O2:=uZ [Pt b9 4 [pB false],Pt b8 274 [.list 1 .nil []],Pt b7 3 [pI ((a:Nat):Int)],Pt b4 264 [pP w 0]] [Pt w 266 W.pv,eF W cv,an W.n x es ms ids] L O1;refine ak.dd (n:=l.length) (by omega) (λi s u=>s.2=fO (jz es (l.take i) [b])/\(jz es (l.take i) [b]).length<=1000001/\(∀j,((cv j+sh a (cL es (l.take i) [b]) j:Nat):Int)<=x.T)/\Ow (Pt w 266 W.pv::eF W (λj=>cv j+sh a (cL es (l.take i) [b]) j)::an W.n x es ms ids::Pt b9 4 [pB false]::Pt b8 274 [.list 1 .nil []]::Pt b7 3 [pI ((a+ah (l.take i):Nat):Int)]::Pt b4 264 [pP w 0]::L) u) ⟨rfl,by simp[jz],λj=>?_,?_⟩ ?_ ?_
 ·rw[take_zero,JC];exact hcv j
 ·have e:(λj=>cv j+sh a (cL es (l.take 0) [b]) j)=cv:=by funext j;rw[take_zero,JC];rfl
  rw[e];exact O2
 ·rintro i ⟨fr,_⟩ u next hi ⟨rfl,hRl,hC,wI⟩ av
  dsimp only;refine ab.t (by simpa using hi) ⟨by omega,_,aC hi,_,_,_,_,_,_,_,_,_,_,jD _,λBM Fp=>?_⟩;generalize hRi:jz es (l.take i) [b]=Ri at*
  generalize hai:a+ah (l.take i)=ai at*
  generalize hCi:(λj=>cv j+sh a (cL es (l.take i) [b]) j)=Ci at*
  have adN:∀j,cv j+sh a (cL es (l.take i) [b]) j=Ci j:=λj=>by rw[<- hCi]
  simp only[adN]at hC;have hc:tc l[i]:=lC.1 aI _ (getElem_mem hi);have hfc:ki ms W.aB ai l[i]:=by rw[<- hai];exact Ij hi tE
  have fw:ai+aO l[i]<=a+ah l:=by
   have h1:=mD hi;have h2:=gJ l (i+1);omega
  have acK:aO l[i]=1+ah l[i].conds:=bN _;obtain⟨hY,RE,Mr⟩:=(mG _).1 hc;obtain⟨Kt,Fm⟩:=(vB ms W.aB ai l[i]).1 hfc;have hRb:∀r∈Ri,r.length<=b.length+100*ah (l.take i):=by
   rw[<- hRi];refine LS (cE.2 λd hd=>cE.1 Kk d (List.mem_of_mem_take hd)) λr hr=>?_;simp only[mem_singleton]at hr;subst hr;exact le_refl _
  have fC:ah (l.take i)<=ah l:=gJ l i;have adi:jz es (l.take (i+1)) [b]=Ri.flatMap λr=>iQ es l[i] r:=by rw[Qw es hi,hRi]
  have RC:∀j,cv j+sh a (cL es (l.take (i+1)) [b]) j=Ci j+sh ai (dm es l[i] Ri) j:=λj=>by
   rw[<- adN j,show sh a (cL es (l.take (i+1)) [b]) j=sh a (cL es (l.take i) [b]) j+sh ai (dm es l[i] Ri) j from ?_]
   ·omega
   ·rw[uK (λq=>zM es hi [b] q),JD,Wz,hai,hRi]
  have adm:∀j k,Ci j+sh ai (dm es l[i] (Ri.take k)) j<=cv j+sh a (cL es l [b]) j:=λj k=>by
   have h2:sh ai (dm es l[i] (Ri.take k)) j<=sh ai (dm es l[i] Ri) j:=WA (λq=>Ub es l[i] Ri k q) j;have h3:sh a (cL es (l.take (i+1)) [b]) j<=sh a (cL es l [b]) j:=WA (λq=>aea es l (i+1) [b] q) j;have h4:=RC j;omega
  have O4:=uZ [jy BM 274 1 []] [Pt w 266 W.pv,eF W Ci,an W.n x es ms ids] _ (jy.new (wI.new 274 [.list 1 .nil []] Fp));refine ak.each (n:=Ri.length) (by omega) (λk u=>(∀j,((Ci j+sh ai (dm es l[i] (Ri.take k)) j:Nat):Int)<=x.T)/\Ow (Pt w 266 W.pv::eF W (λj=>Ci j+sh ai (dm es l[i] (Ri.take k)) j)::an W.n x es ms ids::jy BM 274 1 (fO ((Ri.take k).flatMap λr=>iQ es l[i] r))::Pt b9 4 [pB false]::Pt b8 274 [.list 1 .nil []]::Pt b7 3 [pI ((ai:Nat):Int)]::Pt b4 264 [pP w 0]::L) u) ⟨λj=>?_,?_⟩ ?_ ?_
  ·have:sh ai (dm es l[i] (Ri.take 0)) j=0:=by unfold sh;split<;>rfl
   rw[this];exact hC j
  ·have e:(λj=>Ci j+sh ai (dm es l[i] (Ri.take 0)) j)=Ci:=by
    funext j;have:sh ai (dm es l[i] (Ri.take 0)) j=0:=by unfold sh;split<;>rfl
    rw[this];rfl
   rw[e];exact O4
  ·intro k u1 iZ hk ⟨hD,xz⟩ g_;have hbk:=hRb _ (getElem_mem hk);generalize hDf:(λj=>Ci j+sh ai (dm es l[i] (Ri.take k)) j)=D at xz;have Oj:∀j,Ci j+sh ai (dm es l[i] (Ri.take k)) j=D j:=λj=>by rw[<- hDf]
   simp only[Oj]at hD;have hFl:((((Ri.take k).flatMap λr=>iQ es l[i] r).length:Nat):Int)<=x.T:=by
    have h2:=hD ai;rw[<- Oj ai,Ha,wO]at h2;omega
   have d_:∀u',(∀j,((D j+sh ai (cC es l[i] Ri[k]) j:Nat):Int)<=x.T)->Ow (Pt w 266 W.pv::eF W (λj=>D j+sh ai (cC es l[i] Ri[k]) j)::an W.n x es ms ids::jy BM 274 1 (fO ((Ri.take k).flatMap λr=>iQ es l[i] r)++fO (iQ es l[i] Ri[k]))::Pt b9 4 [pB false]::Pt b8 274 [.list 1 .nil []]::Pt b7 3 [pI ((ai:Nat):Int)]::Pt b4 264 [pP w 0]::L) u'->iZ (wrap .i64 ((k:Int)+1)) u':=λu' h2 h3=>by
    have e:(λj=>D j+sh ai (cC es l[i] Ri[k]) j)=λj=>Ci j+sh ai (dm es l[i] (Ri.take (k+1))) j:=by
     funext j;rw[GR hk,<- Oj j];omega
    refine g_ u' ⟨λj=>?_,?_⟩
    ·rw[<- congrFun e j];exact h2 j
    ·rw[<- e,FB hk,Dl];exact h3
   have Bo:(∃q,x.T<((D q+sh ai (cC es l[i] Ri[k]) q:Nat):Int))->∀ph μ',Ow (Pt w 266 W.pv::eF W ph::an W.n x es ms ids::L) μ'->K (.az [.list 1 .nil [],pB false]) μ':=λ⟨q,hq⟩=>h0 ⟨q,by
    have h2:=adm q (k+1)
    rw[GR hk]at h2
    have h3:=Oj q
    omega⟩
   refine ab.t (by simpa[fO]using hk) ⟨by omega,_,SY Ri hk,_,_,rfl,?_⟩;refine ab.mk (λjB=>?_) (λjB=>ab.mk (λeK=>?_) (λeK=>?_))
   ·have qu:l[i].kind=1:=by simpa using jB
    rw[if_pos (.inl qu)]at Fm;have hco:Cf l[i]:=⟨hY,RE (.inl qu)⟩;refine⟨_,xz.rd 7 rfl (by simp),_,xz.rd 0 rfl (by simp),_,xz.rd 7 rfl (by simp),_,_,xz.rd 0 rfl (by simp),_,xz.rd 6 rfl (by simp),by omega,_,tj Kt,_,rfl,?_⟩;refine FL (an.xp (x:=x) (es:=es) (ms:=ms) (ids:=ids) xz (by simp)) l[i] _ _ _ _ Ri[k] (by omega) W.aB[ai] ?_;obtain⟨fe,ga,gb,hf⟩:=wN W.n x.al W.aB[ai] (gi Ri[k] l[i].id);rw[hf];refine⟨_,_,_,rfl,?_⟩;rw[Mem.sg];refine(Sw fe ga gb l[i] _ _ _ _ Ri[k] (by omega)).call ⟨_,_,_,rfl,?_⟩;have wG:iQ es l[i] Ri[k]=(aX l[i] Ri[k] es).map (·.2):=by rw[lP,if_pos qu]
    have HW:cC es l[i] Ri[k] 0=(aX l[i] Ri[k] es).length:=by rw[oF,wG,length_map]
    have oB:∀j,cC es l[i] Ri[k] (j+1)=0:=λj=>xL _ (.inl qu) j;refine bu.own (wY hA hI hco (Fm.1 Kt) (by omega) hf) (Ow.at 2 rfl xz)
     (λm u=>(((D ai+m:Nat):Int)<=x.T)/\Ow (Pt w 266 W.pv::eF W (my D ai (D ai+m))::an W.n x es ms ids::jy BM 274 1 (fO ((Ri.take k).flatMap λr=>iQ es l[i] r)++fO (((aX l[i] Ri[k] es).take m).map (·.2)))::Pt b9 4 [pB false]::Pt b8 274 [.list 1 .nil []]::Pt b7 3 [pI ((ai:Nat):Int)]::Pt b4 264 [pP w 0]::L) u)
     (λcd u=>cd=.ret/\(∃q,x.T<((D q+sh ai (cC es l[i] Ri[k]) q:Nat):Int))/\∃ph rs,Ow (Pt w 266 W.pv::eF W ph::an W.n x es ms ids::jy BM 274 1 rs::Pt b9 4 [pB false]::Pt b8 274 [.list 1 .nil []]::Pt b7 3 [pI ((ai:Nat):Int)]::Pt b4 264 [pP w 0]::L) u)
     (λm=>eC.and (eC.own _)) (λcd=>eC.and (eC.and (eC.ex λ_=>eC.ex λ_=>eC.own _))) (λμ' h'=>⟨by simpa using hD ai,?_⟩) ?_ ?_ ?_
    ·have e:my D ai (D ai+0)=D:=by funext j;unfold my;split<;>simp_all
     rw[e];have h'':Ow ([an W.n x es ms ids]++([Pt w 266 W.pv,eF W D]++(jy BM 274 1 (fO ((Ri.take k).flatMap λr=>iQ es l[i] r))::Pt b9 4 [pB false]::Pt b8 274 [.list 1 .nil []]::Pt b7 3 [pI ((ai:Nat):Int)]::Pt b4 264 [pP w 0]::L))) μ':=h';simpa[fO]using uZ _ _ _ h''
    ·rintro m hm u2 R ⟨ZA,mq⟩ ca iE;have sr:m<(aX l[i] Ri[k] es).length:=by simpa using hm
     rw[getElem_map];refine⟨_,_,_,_,_,_,_,_,_,_,_,_,_,_,rfl,_,mq.rd 7 rfl (by simp),_,mq.rd 6 rfl (by simp),?_⟩;refine vL mq ai (by omega) (by unfold my;rw[if_pos rfl];omega) λu3 h3=>⟨_,rfl,?_⟩;have eu:my (my D ai (D ai+m)) ai (my D ai (D ai+m) ai+1)=my D ai (D ai+(m+1)):=by
      funext j;unfold my;by_cases e:j=ai
      ·simp[e];omega
      ·simp[e]
     have ev:my D ai (D ai+m) ai=D ai+m:=by unfold my;simp
     rw[eu]at h3;rw[ev];refine ab.mk (λcQ=>?_) (λCy=>?_)
     ·have Rn:x.T<((D ai+m+1:Nat):Int):=by simpa using cQ
      refine h3.st 5 rfl (by simp) λu4 h4=>h4.st 4 rfl (by simp) λu5 h5=>iE _ _ ⟨rfl,⟨ai,?_⟩,_,_,h5⟩;rw[Ha,HW];omega
     ·have HI:((D ai+m+1:Nat):Int)<=x.T:=by simpa using Cy
      have hlen:(fO ((Ri.take k).flatMap λr=>iQ es l[i] r)++fO (((aX l[i] Ri[k] es).take m).map (·.2))).length<=2000000:=by
       rw[length_append,ij,ij,length_map,List.length_take];omega
      refine jy.go 3 h3 rfl (by simp only[length_cons,length_nil];omega) (by simp only[length_cons,length_nil];omega) λu4 h4=>ca _ ⟨by omega,?_⟩;have e2:fO ((Ri.take k).flatMap λr=>iQ es l[i] r)++fO (((aX l[i] Ri[k] es).take (m+1)).map (·.2))=(fO ((Ri.take k).flatMap λr=>iQ es l[i] r)++fO (((aX l[i] Ri[k] es).take m).map (·.2)))++[[.list 4 .sh ((aX l[i] Ri[k] es)[m].2.map Bind.pv)]]:=by
       rw[eP sr,Dl,append_assoc];rfl
      rw[e2];exact h4
    ·rintro u2 ⟨ZA,mq⟩;rw[length_map]at ZA mq;dsimp only[PK];have e:=PA (cv:=D) (a:=ai) (f:=cC es l[i] Ri[k]) HW oB;refine d_ u2 (λj=>?_) ?_
     ·rw[<- congrFun e j];unfold my;split
      ·exact ZA
      ·exact hD j
     ·rw[<- e,wG];rw[take_length]at mq;exact mq
    ·rintro cd u2 ⟨rfl,hq,ph,rs,mq⟩;dsimp only[PK];refine⟨_,_,mq.rd 5 rfl (by simp),_,mq.rd 4 rfl (by simp),?_⟩;exact Bo hq ph u2 (mq.tail λ_ h=>h.tail λ_ h=>h.tail λ_ h=>h.drop.drop.drop.drop.drop)
   ·have Kl:l[i].kind=2:=by simpa using eK
    have qu:¬l[i].kind=1:=by simpa using jB
    rw[if_pos (.inr Kl)]at Fm;have hco:Cf l[i]:=⟨hY,RE (.inr Kl)⟩;have wG:iQ es l[i] Ri[k]=if(aX l[i] Ri[k] es).isEmpty then[Ri[k]]else[]:=by rw[lP,if_neg qu,if_pos Kl]
    have oB:∀j,cC es l[i] Ri[k] (j+1)=0:=λj=>xL _ (.inr Kl) j;refine⟨_,xz.rd 7 rfl (by simp),_,xz.rd 6 rfl (by simp),?_⟩;refine ZQ hA hI (xz.tail λ_ h=>h.swap) hco _ _ _ _ (by omega) Kt (Fm.1 Kt) λu2 adJ=>⟨_,rfl,?_⟩;have mq:=adJ.tail λ_ h=>h.swap;clear adJ;refine ab.mk (λjO=>?_) (λjO=>?_)
    ·have hz:(aX l[i] Ri[k] es).isEmpty=false:=nb jO;rw[hz]at wG;simp only[Bool.false_eq_true,if_false]at wG;have hcz:∀j,sh ai (cC es l[i] Ri[k]) j=0:=λj=>by
      unfold sh;split
      ·cases j-ai with
       |zero=>rw[oF,wG];rfl
       |succ q=>exact oB q
      ·rfl
     have e:(λj=>D j+sh ai (cC es l[i] Ri[k]) j)=D:=by funext j;rw[hcz];rfl
     refine d_ u2 (λj=>by rw[hcz];exact hD j) ?_;rw[e,wG];simpa[fO]using mq
    ·have hz:(aX l[i] Ri[k] es).isEmpty=true:=nt jO;rw[hz]at wG;simp only[if_true]at wG;have HW:cC es l[i] Ri[k] 0=1:=by rw[oF,wG];rfl
     have e:=PA (cv:=D) (a:=ai) (f:=cC es l[i] Ri[k]) HW oB;have hDa:=hD ai;refine⟨_,mq.rd 7 rfl (by simp),_,mq.rd 6 rfl (by simp),vL mq ai (by omega) (by omega) λu3 h3=>⟨_,rfl,ab.mk (λcQ=>?_) (λCy=>?_)⟩⟩
     ·have Rn:x.T<((D ai+1:Nat):Int):=by simpa using cQ
      exact EN h3 (Bo ⟨ai,by rw[Ha,HW];exact Rn⟩ _)
     ·have HI:((D ai+1:Nat):Int)<=x.T:=by simpa using Cy
      refine jy.go 3 h3 rfl (by rw[ij];simp only[length_cons,length_nil];omega) (by rw[ij];simp only[length_cons,length_nil];omega) λu4 h4=>d_ u4 (λj=>?_) ?_
      ·rw[<- congrFun e j];unfold my;split
       ·exact HI
       ·exact hD j
      ·rw[<- e,wG];exact h4
   ·have Kl:¬l[i].kind=2:=by simpa using eK
    have qu:¬l[i].kind=1:=by simpa using jB
    have hk3:¬(l[i].kind=1\/l[i].kind=2):=λh=>h.elim qu Kl;rw[if_neg hk3]at Fm;have wG:iQ es l[i] Ri[k]=if(jz es l[i].conds [Ri[k]]).isEmpty then[Ri[k]]else[]:=by rw[lP,if_neg qu,if_neg Kl]
    have Vp:=SS (es:=es) (b:=Ri[k]) hk3 ai;refine⟨_,xz.rd 7 rfl (by simp),_,xz.rd 6 rfl (by simp),?_⟩;rw[aD (by omega) (by omega),show((ai:Int)+1)=((ai+1:Nat):Int)from by omega];refine ih (ah l[i].conds) (by omega) l[i].conds .sh .sh Ri[k] (ai+1) D (le_refl _) Mr Fm (by omega) hD (by omega) xz (λhE fr2 u2 mq=>⟨_,_,_,rfl,ab.f rfl ?_⟩) (λ⟨q,hq⟩ ph u2 mq=>⟨_,_,_,rfl,ab.t rfl ?_⟩)
    ·simp only[ij];refine ab.mk (λjO=>?_) (λjO=>?_)
     ·have aQ:0<(jz es l[i].conds [Ri[k]]).length:=by simpa using jO
      have hz:(jz es l[i].conds [Ri[k]]).isEmpty=false:=by
       cases hx:jz es l[i].conds [Ri[k]]with
       |nil=>rw[hx]at aQ;simp at aQ
       |cons y ys=>rfl
      rw[hz]at wG;simp only[Bool.false_eq_true,if_false]at wG;have e:∀j,sh ai (cC es l[i] Ri[k]) j=sh (ai+1) (cL es l[i].conds [Ri[k]]) j:=λj=>by rw[Vp j,wG];simp
      refine d_ u2 (λj=>by rw[e j];exact hE j) ?_;rw[show(λj=>D j+sh ai (cC es l[i] Ri[k]) j)=(λj=>D j+sh (ai+1) (cL es l[i].conds [Ri[k]]) j)from funext λj=>by rw[e j],wG];simpa[fO]using mq
     ·have aQ:(jz es l[i].conds [Ri[k]]).length=0:=by simpa using jO
      have hz:(jz es l[i].conds [Ri[k]]).isEmpty=true:=by rw[List.isEmpty_iff];exact List.eq_nil_of_length_eq_zero aQ
      rw[hz]at wG;simp only[if_true]at wG;have Zz:sh (ai+1) (cL es l[i].conds [Ri[k]]) ai=0:=by unfold sh;rw[if_neg (by omega)]
      have ahS:=hE ai;rw[Zz]at ahS;have e:my (λj=>D j+sh (ai+1) (cL es l[i].conds [Ri[k]]) j) ai ((D ai+sh (ai+1) (cL es l[i].conds [Ri[k]]) ai)+1)=λj=>D j+sh ai (cC es l[i] Ri[k]) j:=by
       funext j;rw[Vp j,wG];unfold my;by_cases e:j=ai
       ·subst e;rw[if_pos rfl,if_pos rfl,Zz];rfl
       ·rw[if_neg e,if_neg e];dsimp only;omega
      refine⟨_,mq.rd 7 rfl (by simp),_,mq.rd 6 rfl (by simp),vL mq ai (by omega) (by rw[Zz];omega) λu3 h3=>⟨_,rfl,ab.mk (λcQ=>?_) (λCy=>?_)⟩⟩
      ·have Rn:x.T<((D ai+1:Nat):Int):=by
        have h2:x.T<((D ai+sh (ai+1) (cL es l[i].conds [Ri[k]]) ai+1:Nat):Int):=by simpa using cQ
        rw[Zz]at h2;exact h2
       refine EN h3 (Bo ⟨ai,?_⟩ _);rw[Vp ai,wG,if_pos rfl,Zz];exact Rn
      ·have HI:((D ai+1:Nat):Int)<=x.T:=by
        have h2:((D ai+sh (ai+1) (cL es l[i].conds [Ri[k]]) ai+1:Nat):Int)<=x.T:=by simpa using Cy
        rw[Zz]at h2;exact h2
       refine jy.go 3 h3 rfl (by rw[ij];simp only[length_cons,length_nil];omega) (by rw[ij];simp only[length_cons,length_nil];omega) λu4 h4=>d_ u4 (λj=>?_) ?_
       ·rw[<- congrFun e j];unfold my;split
        ·rw[Zz];exact HI
        ·exact hE j
       ·rw[<- e,wG];exact h4
    ·refine EN mq (Bo ⟨q,?_⟩ ph);rw[Vp q];omega
  ·intro u1 iZ ⟨hD,xz⟩;refine ab.f (by simp[fO]) ?_;rw[take_length]at xz hD;obtain⟨f2,hf2⟩:=jy.rd 3 xz rfl;have hS:=ZS .nr [l[i]] (by simp only[ah];omega);rw[show[l[i]].map ae.pv=[l[i].pv]from rfl,ae.cH]at hS;refine⟨_,_,hf2,_,xz.rd 6 rfl (by simp),hS.q ⟨_,rfl,?_⟩⟩;rw[Mem.sg];refine xz.st 6 rfl (by simp) λu2 h2=>av _ _ ⟨by rw[adi],?_,λj=>by rw[RC j];exact hD j,?_⟩
   ·have h3:=hD ai;rw[Ha,wO]at h3;rw[adi];omega
   ·have e1:(λj=>cv j+sh a (cL es (l.take (i+1)) [b]) j)=λj=>Ci j+sh ai (dm es l[i] Ri) j:=funext RC;rw[e1];have e2:dx [pI ((ai:Nat):Int)] 0 [pI (wrap .i64 (((ai:Nat):Int)+((ah [l[i]]:Nat):Int)))]=[pI ((a+ah (l.take (i+1)):Nat):Int)]:=by
     have h3:=mD hi;have h4:ah [l[i]]=aO l[i]:=by simp[ah]
     rw[h4,aD (by omega) (by omega)];show[pI _]=_;congr 2;omega
    rw[e2]at h2;exact h2.tail λ_ h=>h.tail λ_ h=>h.tail λ_ h=>h.drop
 ·rintro⟨fr,_⟩ u next ⟨rfl,hRl,hC,wI⟩
  refine ab.f (by simp) ?_;rw[take_length]at hC wI |-;refine wI.st 4 rfl (by simp) λu1 GA=>GA.st 3 rfl (by simp) λu2 h2=>?_;refine⟨_,_,h2.rd 4 rfl (by simp[dx]),_,h2.rd 3 rfl (by simp[dx]),?_⟩;exact h1 hC _ _ (h2.tail λ_ h=>h.tail λ_ h=>h.tail λ_ h=>h.drop.drop.drop.drop)
end
mutual
def nz(es fs:List aj):ae->Prop
 | .mk k g i a v ac cs=>if k=1\/k=2 then es.filter (bg (bt (.mk k g i a v ac cs)))=fs.filter (bg (bt (.mk k g i a v ac cs)))else vf es fs cs
def vf(es fs:List aj):List ae->Prop
 |[]=>True
 |c::cs=>nz es fs c/\vf es fs cs
end
theorem Al{es fs:List aj}{c:ae}(h:es.filter (bg (bt c))=fs.filter (bg (bt c)))(l:List aP.Bind):aX c l es=aX c l fs:=by
 rw[<- kI (es:=es) (p:=bg (bt c)) λe he=>xE he,h,kI λe he=>xE he]
mutual
theorem vv{es fs:List aj}:∀(c:ae) (b:List aP.Bind),nz es fs c->iQ es c b=iQ fs c b
 | .mk k g i a v ac cs,b,h=>by
   unfold nz at h
   by_cases hk:k=1\/k=2
   ·rw[if_pos hk]at h
    simp only[iQ]
    rw[Al h b]
    by_cases h1:k=1
    ·rw[if_pos h1,if_pos h1]
    ·rw[if_neg h1,if_neg h1,if_pos (hk.resolve_left h1),if_pos (hk.resolve_left h1)]
   ·rw[if_neg hk]at h
    simp only[iQ]
    rw[if_neg (λe=>hk (.inl e)),if_neg (λe=>hk (.inr e)),if_neg (λe=>hk (.inl e)),if_neg (λe=>hk (.inr e)),Hq cs [b] h]
theorem Hq{es fs:List aj}:∀(cs:List ae) (rows:List (List aP.Bind)),vf es fs cs->jz es cs rows=jz fs cs rows
 |[],rows,_=>rfl
 |c::cs,rows,h=>by
  unfold vf at h
  simp only[jz]
  rw[show(λb=>iQ es c b)=(λb=>iQ fs c b)from funext λb=>vv c b h.1]
  exact Hq cs _ h.2
end
mutual
theorem MO{es fs:List aj}:∀(c:ae) (b:List aP.Bind) (j:Nat),nz es fs c->cC es c b j=cC fs c b j
 | .mk k g i a v ac cs,b,0,h=>by
   simp only[cC];rw[vv _ b h]
 | .mk k g i a v ac cs,b,j+1,h=>by
   simp only[cC]
   unfold nz at h
   by_cases hk:k=1\/k=2
   ·rw[if_pos hk,if_pos hk]
   ·rw[if_neg hk]at h
    rw[if_neg hk,if_neg hk,MK cs [b] j h]
theorem MK{es fs:List aj}:∀(cs:List ae) (rows:List (List aP.Bind)) (j:Nat),vf es fs cs->cL es cs rows j=cL fs cs rows j
 |[],rows,j,_=>rfl
 |c::cs,rows,j,h=>by
  unfold vf at h
  simp only[cL]
  rw[show(λb=>cC es c b j)=(λb=>cC fs c b j)from funext λb=>MO c b j h.1,show(λb=>iQ es c b)=(λb=>iQ fs c b)from funext λb=>vv c b h.1,MK cs _ _ h.2]
end
theorem Ae{es fs:List aj}{c:ae}(h:nz es fs c)(ts:List bW):stepT es c ts=stepT fs c ts:=by
 unfold stepT;by_cases hk:c.kind=1
 ·rw[if_pos hk,if_pos hk];congr 1;funext t;cases c with|mk k g i a v ac cs=>
  have hk:k=1:=hk;unfold nz at h;rw[if_pos (.inl hk)]at h;rw[Al h]
 ·rw[if_neg hk,if_neg hk];congr 1;funext t;rw[vv c t.binds h]
theorem DZ{es fs:List aj}{c:ae}(h:nz es fs c)(ts:List bW)(j:Nat):du es c ts j=du fs c ts j:=by
 unfold du;rw[show(λt:bW=>cC es c t.binds j)=(λt:bW=>cC fs c t.binds j)from funext λt=>MO c t.binds j h]
theorem RZ{ms:dg}{aB:List Int}{es fs:List aj}(h:∀k∈aB,∀x,aL aw bO k ms=some x->es.filter (bg x.2.c)=fs.filter (bg x.2.c)):(∀(c:ae) (a:Nat),ki ms aB a c->nz es fs c):=by
 intro c;refine ae.ind (Q:=λc=>∀a,ki ms aB a c->nz es fs c) (λc ih a hf=>?_) c;have hl:∀(l:List ae),(∀d∈l,∀a,ki ms aB a d->nz es fs d)->∀a,vA ms aB a l->vf es fs l:=by
  intro l;induction l with
  |nil=>intro _ _ _;unfold vf;trivial
  |cons d l ih2=>
   intro h1 a h2;unfold vA at h2;unfold vf;exact⟨h1 d (by simp) _ h2.1,ih2 (λd' hd=>h1 d' (by simp[hd])) _ h2.2⟩
 obtain⟨ha,hf⟩:=(vB ms aB a c).1 hf;cases c with|mk k g i at' v ac cs=>
 unfold nz;have Gy:(ae.mk k g i at' v ac cs).kind=k:=rfl;rw[Gy]at hf;by_cases hk:k=1\/k=2
 ·rw[if_pos hk]at hf |-;obtain⟨x,hx,hc⟩:=hf.1 ha;have:=h _ (getElem_mem ha) x hx;rw[hc]at this;exact this
 ·rw[if_neg hk]at hf |-;exact hl cs (λd hd=>ih d hd) _ hf
theorem FA{α β:Type}{f g:α->List β}{a b:List α}(h:a.Perm b)(hf:∀x,(f x).Perm (g x)):(a.flatMap f).Perm (b.flatMap g):=by
 have h1:∀l:List α,(l.flatMap f).Perm (l.flatMap g):=λl=>by
  induction l with
  |nil=>exact Perm.refl _
  |cons x l ih=>rw[flatMap_cons,flatMap_cons];exact(hf x).append ih
 refine(h1 a).trans ?_;induction h with
 |nil=>exact Perm.refl _
 |cons x _ ih=>rw[flatMap_cons,flatMap_cons];exact ih.append_left _
 |swap x y l=>
  rw[flatMap_cons,flatMap_cons,flatMap_cons,flatMap_cons,<- append_assoc,<- append_assoc];exact List.perm_append_comm.append_right _
 |trans _ _ i1 i2=>exact i1.trans i2
theorem tJ{α:Type}{a b:List α}(h:a.Perm b):a.isEmpty=b.isEmpty:=by
 have:=h.length_eq;cases a<;>cases b<;>simp_all
theorem z_{a b:List Nat}(h:a.Perm b):a.sum=b.sum:=by
 induction h with
 |nil=>rfl
 |cons x _ ih=>simp[ih]
 |swap x y l=>simp only[sum_cons];omega
 |trans _ _ i1 i2=>rw[i1,i2]
theorem sS{es fs:List aj}(h:es.Perm fs)(c:ae)(l:List aP.Bind):(aX c l es).Perm (aX c l fs):=h.filterMap _
mutual
theorem vu{es fs:List aj}(h:es.Perm fs):∀(c:ae) (b:List aP.Bind),(iQ es c b).Perm (iQ fs c b)
 | .mk k g i a v ac cs,b=>by
   simp only[iQ]
   by_cases h1:k=1
   ·rw[if_pos h1,if_pos h1];exact(sS h _ b).map _
   ·rw[if_neg h1,if_neg h1]
    by_cases h2:k=2
    ·rw[if_pos h2,if_pos h2,tJ (sS h _ b)]
    ·rw[if_neg h2,if_neg h2,tJ (Hp h cs (Perm.refl [b]))]
theorem Hp{es fs:List aj}(h:es.Perm fs):∀(cs:List ae) {r s:List (List aP.Bind)},r.Perm s->(jz es cs r).Perm (jz fs cs s)
 |[],_,_,hr=>by simpa only[jz]using hr
 |c::cs,_,_,hr=>by
  simp only[jz]
  exact Hp h cs (FA hr λb=>vu h c b)
end
mutual
theorem MN{es fs:List aj}(h:es.Perm fs):∀(c:ae) (b:List aP.Bind) (j:Nat),cC es c b j=cC fs c b j
 | .mk k g i a v ac cs,b,0=>by simp only[cC];exact(vu h _ b).length_eq
 | .mk k g i a v ac cs,b,j+1=>by
   simp only[cC]
   by_cases hk:k=1\/k=2
   ·rw[if_pos hk,if_pos hk]
   ·rw[if_neg hk,if_neg hk,MI h cs (Perm.refl [b]) j]
theorem MI{es fs:List aj}(h:es.Perm fs):∀(cs:List ae) {r s:List (List aP.Bind)},r.Perm s->∀j:Nat,cL es cs r j=cL fs cs s j
 |[],_,_,_,_=>rfl
 |c::cs,r,s,hr,j=>by
  simp only[cL]
  by_cases hj:j<aO c
  ·rw[if_pos hj,if_pos hj,show(λb=>cC es c b j)=(λb=>cC fs c b j)from funext λb=>MN h c b j]
   exact z_ (hr.map _)
  ·rw[if_neg hj,if_neg hj]
   exact MI h cs (FA hr λb=>vu h c b) _
end
theorem Jx{es fs:List aj}(h:es.Perm fs)(c:ae){ts us:List bW}(ht:ts.Perm us):(stepT es c ts).Perm (stepT fs c us):=by
 unfold stepT;by_cases hk:c.kind=1
 ·rw[if_pos hk,if_pos hk];exact FA ht λt=>(sS h c t.binds).map _
 ·rw[if_neg hk,if_neg hk,show(λt:bW=> !(iQ es c t.binds).isEmpty)=(λt:bW=> !(iQ fs c t.binds).isEmpty)from funext λt=>by rw[tJ (vu h c t.binds)]];exact ht.filter _
theorem Bt{es fs:List aj}(h:es.Perm fs):∀(p:List ae) {ts us:List bW},ts.Perm us->(p.foldl (λts c=>stepT es c ts) ts).Perm (p.foldl (λts c=>stepT fs c ts) us)
 |[],_,_,ht=>ht
 |c::p,_,_,ht=>by simp only[List.foldl_cons];exact Bt h p (Jx h c ht)
theorem lh{es fs:List aj}(h:es.Perm fs)(p:List ae):(aE es p).Perm (aE fs p):=Bt h p (Perm.refl _)
theorem DY{es fs:List aj}(h:es.Perm fs)(c:ae){ts us:List bW}(ht:ts.Perm us)(j:Nat):du es c ts j=du fs c us j:=by
 unfold du;rw[show(λt:bW=>cC es c t.binds j)=(λt:bW=>cC fs c t.binds j)from funext λt=>MN h c t.binds j];exact z_ (ht.map _)
theorem Ad(es:List aj)(c:ae)(a b:List bW):stepT es c (a++b)=stepT es c a++stepT es c b:=by
 unfold stepT;split
 ·rw[List.flatMap_append]
 ·rw[List.filter_append]
theorem xF(es:List aj)(c:ae)(a b:List bW)(j:Nat):du es c (a++b) j=du es c a j+du es c b j:=by unfold du;rw[map_append,List.sum_append]
theorem jt(es:List aj)(c:ae)(ts:List bW):du es c ts 0=(stepT es c ts).length:=by
 induction ts with
 |nil=>unfold du stepT;simp
 |cons t ts ih=>
  have e:t::ts=[t]++ts:=rfl;rw[e,xF,Ad,length_append,ih];congr 1;unfold du stepT;simp only[map_cons,map_nil,sum_cons,List.sum_nil,Nat.add_zero,oF];by_cases hk:c.kind=1
  ·rw[if_pos hk,lP,if_pos hk];simp
  ·rw[if_neg hk];have h1:(iQ es c t.binds).length=if(iQ es c t.binds).isEmpty then 0 else 1:=by
    rw[lP,if_neg hk];split<;>split<;>rfl
   rw[h1,List.filter_cons,List.filter_nil];cases(iQ es c t.binds).isEmpty<;>rfl
@[reducible] def qg(k:Nat):List PV:=[pI ((k:Nat):Int)]
structure lW where
 c:ae
 fa:Fl
 fv:Fl
 fc:Fl
 ka:Option Addr
 kn:Nat
 kc:Nat
 fm:Fl
 aB:List Int
 ft:Fl
 dN:List bW
 fk:Fl
 cnt:List Nat
 ends:Int
 ff:Fl
 fr:List bW
 fq:Fl
 mn:List Nat
@[reducible] def lW.pv(x:lW):List PV:=[pI x.c.kind,pB x.c.goal,pS x.c.id,.list 6 x.fa (x.c.attr.map Test.pv),.list 6 x.fv (x.c.value.map Test.pv),pB x.c.acc,.list 7 x.fc (x.c.conds.map ae.pv),.raw (.slice x.ka x.kn x.kc),.list 1 x.fm (x.aB.map gq),.list 2 x.ft (x.dN.map bW.pv),.list 1 x.fk (x.cnt.map qg),pI x.ends,.list 2 x.ff (x.fr.map bW.pv),.list 1 x.fq (x.mn.map qg)]
def kB(es:List aj)(c:ae)(ts:List bW):List Nat:=(range (aO c)).map λj=>du es c ts j
theorem Sl(es:List aj)(c:ae)(j:Nat):du es c [] j=0:=rfl
theorem DX(es:List aj)(c:ae){ts:List bW}{k:Nat}(hk:k<ts.length)(j:Nat):du es c (ts.take (k+1)) j=du es c (ts.take k) j+cC es c ts[k].binds j:=by
 rw[take_add_one,getElem?_eq_getElem hk,xF];simp[du]
theorem VE(es:List aj)(c:ae)(ts:List bW)(k j:Nat):du es c (ts.take k) j<=du es c ts j:=by
 have:=xF es c (ts.take k) (ts.drop k) j;rw[List.take_append_drop]at this;omega
theorem Jv(es:List aj)(c:ae){ts:List bW}{k:Nat}(hk:k<ts.length):stepT es c (ts.take (k+1))=stepT es c (ts.take k)++stepT es c [ts[k]]:=by
 rw[take_add_one,getElem?_eq_getElem hk,Ad];rfl
theorem Ni{es:List aj}{c:ae}(h:c.kind=1)(t:bW):stepT es c [t]=(aX c t.binds es).map λx=>⟨t.tags++[x.1.tag],x.2⟩:=by
 unfold stepT;rw[if_pos h];simp
theorem Nj{es:List aj}{c:ae}(h:¬c.kind=1)(t:bW):stepT es c [t]=if(iQ es c t.binds).isEmpty then[]else[t]:=by
 unfold stepT;rw[if_neg h,List.filter_cons,List.filter_nil];cases(iQ es c t.binds).isEmpty<;>rfl
theorem Sk(es:List aj)(c:ae)(ts:List bW){j:Nat}(h:aO c<=j):du es c ts j=0:=by
 unfold du;induction ts with
 |nil=>rfl
 |cons b ts ih=>rw[map_cons,sum_cons,ih,SU es c _ h]
theorem XY{ts:List bW}{k:Nat}(hk:k<ts.length):(ts.map bW.pv)[toNat (k:Int)]?=some (bW.pv ts[k]):=aC hk
theorem VG(N:Nat)(cv:Nat->Nat):aU ((range N).map λi=>[pI ((cv i:Nat):Int)]).flatten=true:=by
 rw[aU,all_eq_true];intro p hp;obtain⟨r,hr,hp⟩:=List.mem_flatten.1 hp;obtain⟨i,_,rfl⟩:=mem_map.1 hr;simp only[mem_singleton]at hp;subst hp;rfl
section
variable {n:Nat} {x:NC} {es:List aj} {ms:dg} {ids:pq}
theorem MF(hA:dr es ms)(hI:iV es ids)(hT:0<=x.T/\x.T<=1000000){xb:Nat}(d:lW)(aI:tc d.c)(hs:aO d.c<=100)(tE:ki ms d.aB 0 d.c)(hN:d.aB.length=aO d.c)(ahead:List bW)(fl:Fl)(hal:ahead.length<=1000001)(yG:∀t∈ahead,t.binds.length<=800000/\t.tags.length<=100000)
  {L:List aR} {μ:Mem} (hO:Ow (an n x es ms ids::Pt xb 156 d.pv::L) μ) {K:Kq}
  (h1:(∀j,((du es d.c ahead j:Nat):Int)<=x.T)->∀f μ',Ow (an n x es ms ids::Pt xb 156 d.pv::L) μ'->K (.az [.list 2 f ((stepT es d.c ahead).map bW.pv),.list 1 .sh ((kB es d.c ahead).map qg),pB true]) μ')
  (h0:(∃j,x.T<((du es d.c ahead j:Nat):Int))->∀μ',Ow (an n x es ms ids::Pt xb 156 d.pv::L) μ'->K (.az [.list 2 .nil [],.list 1 .sh [],pB false]) μ'):
  aa prog 105 [pP n 0,pP xb 0,.list 2 fl (ahead.map bW.pv)] μ K:=by
 have Kb:1<=aO d.c:=by rw[bN];omega
 obtain⟨hT0,hT1⟩:=hT
 refine aa.ah2 (K:=λv μ'=>((∀j,((du es d.c ahead j:Nat):Int)<=x.T)/\∃f a c,v=.az [.list 2 f ((stepT es d.c ahead).map bW.pv),.raw (.slice a (aO d.c) c),pB true]/\Ow (cA 3 1 (.raw (.slice a (aO d.c) c)) ((range (aO d.c)).map λi=>[pI ((du es d.c ahead i:Nat):Int)])::an n x es ms ids::Pt xb 156 d.pv::L) μ')\/
  ((∃j,x.T<((du es d.c ahead j:Nat):Int))/\v=.az [.list 2 .nil [],.raw (.slice none 0 0),pB false]/\Ow (an n x es ms ids::Pt xb 156 d.pv::L) μ')) ?_ ?_
 ·refine vY.c λb6 Fo b7 HX b8 Oh=>?_;have O1:=((hO.new 154 [.list 2 .nil []] Fo).new 45 [.raw (.slice none 0 0)] HX).new 4 [pB false] Oh;have ado:flatten (List.replicate (aO d.c) [pI 0])=((range (aO d.c)).map λi=>[pI (((λ_=>0:Nat->Nat) i:Nat):Int)]).flatten:=by
   congr 1;refine List.ext_getElem (by simp) λi h1 h2=>?_;simp
  have fin:∀{b9 w zN:Nat} {u:Mem},Ow (Pt w 266 (WC.mk n d.fm d.aB (some ⟨zN,0,none⟩) (aO d.c) (aO d.c)).pv::Pt zN 3 (flatten (List.replicate (aO d.c) [pI 0]))::an n x es ms ids::Pt xb 156 d.pv::Pt b9 264 [pP w 0]::Pt b8 4 [pB false]::Pt b7 45 [.raw (.slice none 0 0)]::Pt b6 154 [.list 2 .nil []]::L) u->
    Ow (Pt w 266 (WC.mk n d.fm d.aB (some ⟨zN,0,none⟩) (aO d.c) (aO d.c)).pv::eF (WC.mk n d.fm d.aB (some ⟨zN,0,none⟩) (aO d.c) (aO d.c)) (λ_=>0)::an n x es ms ids::Pt xb 156 d.pv::Pt b9 264 [pP w 0]::Pt b8 4 [pB false]::Pt b7 45 [.raw (.slice none 0 0)]::Pt b6 154 [.list 2 .nil []]::L) u:=λ{b9 w zN u} h=>by
   rw[ado]at h;refine h.tail λ_ h2=>?_;have h3:=Ow.afP (sz:=1) h2;rw[length_map,List.length_range]at h3;exact h3
  refine⟨λs u=>∃b9 w zN,s=some ⟨b9,0,none⟩/\Ow (Pt w 266 (WC.mk n d.fm d.aB (some ⟨zN,0,none⟩) (aO d.c) (aO d.c)).pv::eF (WC.mk n d.fm d.aB (some ⟨zN,0,none⟩) (aO d.c) (aO d.c)) (λ_=>0)::an n x es ms ids::Pt xb 156 d.pv::Pt b9 264 [pP w 0]::Pt b8 4 [pB false]::Pt b7 45 [.raw (.slice none 0 0)]::Pt b6 154 [.list 2 .nil []]::L) u,?_,?_⟩
  ·refine⟨_,_,O1.rd 4 rfl (by simp),_,_,O1.rd 4 rfl (by simp),?_⟩;rw[show toNat (((d.aB.map gq).length:Nat):Int)=aO d.c from by simp[hN],show(((d.aB.map gq).length:Nat):Int)=((aO d.c:Nat):Int)from by simp[hN]];refine⟨⟨by omega,by omega,by omega,by omega,λzN Vs=>⟨λXM Ks b9 Zu=>?_,λb9 Zu XM Ks=>?_⟩⟩,λb9 Zu=>⟨by omega,by omega,by omega,by omega,λzN Vs XM Ks=>?_⟩⟩
   ·refine(((O1.new _ _ Vs).new _ _ Ks).new _ _ Zu).st 0 rfl (by simp) λu h=>⟨b9,XM,zN,rfl,fin ?_⟩;exact Ow.ord [1,1,4,4,0] h
   ·refine(((O1.new _ _ Vs).new _ _ Zu).new _ _ Ks).st 1 rfl (by simp) λu h=>⟨b9,XM,zN,rfl,fin ?_⟩;exact Ow.ord [0,1,4,4,0] h
   ·refine(((O1.new _ _ Zu).new _ _ Vs).new _ _ Ks).st 2 rfl (by simp) λu h=>⟨b9,XM,zN,rfl,fin ?_⟩;exact Ow.ord [0,0,4,4,0] h
  ·rintro s u ⟨b9,w,zN,rfl,gg⟩ Wc ahw;generalize hW:WC.mk n d.fm d.aB (some ⟨zN,0,none⟩) (aO d.c) (aO d.c)=W at gg;have hWn:W.n=n:=by rw[<- hW]
   have hWm:W.aB=d.aB:=by rw[<- hW]
   have hWN:W.N=aO d.c:=by rw[<- hW]
   have hWc:W.pv=[pP n 0,.list 1 d.fm (d.aB.map gq),.raw (.slice (some ⟨zN,0,none⟩) (aO d.c) (aO d.c))]:=by rw[<- hW]
   have ZC:∀cv,eF W cv=cA 3 1 (.raw (.slice (some ⟨zN,0,none⟩) (aO d.c) (aO d.c))) ((range (aO d.c)).map λi=>[pI ((cv i:Nat):Int)]):=λcv=>by rw[<- hW];rfl
   rw[<- hWn]at gg |-;have O3:=Ow.ord [1,1,1,0] (jy.new (gg.new 154 [.list 2 .nil []] ahw));have O3:Ow (Pt w 266 W.pv::eF W (λ_=>0)::an W.n x es ms ids::jy Wc 154 2 []::Pt xb 156 d.pv::Pt b9 264 [pP w 0]::Pt b8 4 [pB false]::Pt b7 45 [.raw (.slice none 0 0)]::Pt b6 154 [.list 2 .nil []]::L) _:=O3;refine ak.each (n:=ahead.length) (by omega) (λk u=>(∀j,((du es d.c (ahead.take k) j:Nat):Int)<=x.T)/\Ow (Pt w 266 W.pv::eF W (λj=>du es d.c (ahead.take k) j)::an W.n x es ms ids::jy Wc 154 2 ((stepT es d.c (ahead.take k)).map bW.pv)::Pt xb 156 d.pv::Pt b9 264 [pP w 0]::Pt b8 4 [pB false]::Pt b7 45 [.raw (.slice none 0 0)]::Pt b6 154 [.list 2 .nil []]::L) u) ⟨λj=>by rw[take_zero,Sl];exact hT0,?_⟩ ?_ ?_
   ·have e:stepT es d.c (ahead.take 0)=[]:=by unfold stepT;split<;>simp
    rw[e];exact O3
   ·rintro k u1 next hk ⟨hD,xz⟩ av
    obtain⟨htb,htt⟩:=yG _ (getElem_mem hk);generalize hDf:(λj=>du es d.c (ahead.take k) j)=D at xz;have Oj:∀j,du es d.c (ahead.take k) j=D j:=λj=>by rw[<- hDf]
    simp only[Oj]at hD;have hFl:(((stepT es d.c (ahead.take k)).length:Nat):Int)<=x.T:=by
     have h2:=hD 0;rw[<- Oj 0,jt]at h2;exact h2
    have d_:∀u',(∀j,((D j+cC es d.c ahead[k].binds j:Nat):Int)<=x.T)->Ow (Pt w 266 W.pv::eF W (λj=>D j+cC es d.c ahead[k].binds j)::an W.n x es ms ids::jy Wc 154 2 ((stepT es d.c (ahead.take k)).map bW.pv++(stepT es d.c [ahead[k]]).map bW.pv)::Pt xb 156 d.pv::Pt b9 264 [pP w 0]::Pt b8 4 [pB false]::Pt b7 45 [.raw (.slice none 0 0)]::Pt b6 154 [.list 2 .nil []]::L) u'->next (wrap .i64 ((k:Int)+1)) u':=λu' h2 h3=>by
     have e:(λj=>D j+cC es d.c ahead[k].binds j)=λj=>du es d.c (ahead.take (k+1)) j:=by
      funext j;rw[DX es d.c hk,Oj]
     refine av u' ⟨λj=>?_,?_⟩
     ·rw[<- congrFun e j];exact h2 j
     ·rw[<- e,Jv es d.c hk,map_append];exact h3
    have Bo:(∃q,x.T<((D q+cC es d.c ahead[k].binds q:Nat):Int))->∃j,x.T<((du es d.c ahead j:Nat):Int):=λ⟨q,hq⟩=>⟨q,by
     have h2:=VE es d.c ahead (k+1) q
     rw[DX es d.c hk,Oj]at h2
     omega⟩
    refine ab.t (by simpa using hk) ⟨by omega,_,XY hk,_,_,_,_,rfl,λb12 ahu=>?_⟩;refine(xz.new 193 [.list 1 .nil [],.list 4 .nil []] ahu).st 0 rfl (by simp) λu5 h5=>?_;have mq:Ow (Pt w 266 W.pv::eF W D::an W.n x es ms ids::jy Wc 154 2 ((stepT es d.c (ahead.take k)).map bW.pv)::Pt b12 193 (bW.pv ahead[k])::Pt xb 156 d.pv::Pt b9 264 [pP w 0]::Pt b8 4 [pB false]::Pt b7 45 [.raw (.slice none 0 0)]::Pt b6 154 [.list 2 .nil []]::L) u5:=Ow.ord [1,1,1,1,0] h5;refine⟨_,mq.rd 5 rfl (by simp),ab.mk (λjB=>?_) (λjB=>?_)⟩
    ·have qu:d.c.kind=1:=by simpa using jB
     obtain⟨hY,RE,Mr⟩:=(mG _).1 aI;obtain⟨Kt,Fm⟩:=(vB ms d.aB 0 d.c).1 tE;rw[if_pos (.inl qu)]at Fm;have hco:Cf d.c:=⟨hY,RE (.inl qu)⟩;refine⟨_,_,_,_,_,_,_,_,_,_,mq.rd 5 rfl (by simp),_,_,_,_,_,_,_,_,_,_,mq.rd 5 rfl (by simp),_,_,mq.rd 4 rfl (by simp),_,_,mq.rd 5 rfl (by simp),by omega,_,tj Kt,_,rfl,_,_,mq.rd 4 rfl (by simp),?_⟩;refine FL (an.xp (x:=x) (es:=es) (ms:=ms) (ids:=ids) mq (by simp)) d.c _ _ _ _ ahead[k].binds (by omega) d.aB[0] ?_;obtain⟨fe,ga,gb,hf⟩:=wN W.n x.al d.aB[0] (gi ahead[k].binds d.c.id);rw[hf];refine⟨_,_,_,rfl,?_⟩;rw[Mem.sg];refine(Sw fe ga gb d.c _ _ _ _ ahead[k].binds (by omega)).call ⟨_,_,_,rfl,?_⟩;have wG:iQ es d.c ahead[k].binds=(aX d.c ahead[k].binds es).map (·.2):=by rw[lP,if_pos qu]
     have HW:cC es d.c ahead[k].binds 0=(aX d.c ahead[k].binds es).length:=by rw[oF,wG,length_map]
     have oB:∀j,cC es d.c ahead[k].binds (j+1)=0:=λj=>xL _ (.inl qu) j;have fC:=Ni (es:=es) qu ahead[k];refine bu.own (wY hA hI hco (Fm.1 Kt) (by omega) hf) (Ow.at 2 rfl mq)
      (λm u=>(((D 0+m:Nat):Int)<=x.T)/\Ow (Pt w 266 W.pv::eF W (my D 0 (D 0+m))::an W.n x es ms ids::jy Wc 154 2 ((stepT es d.c (ahead.take k)).map bW.pv++((stepT es d.c [ahead[k]]).take m).map bW.pv)::Pt b12 193 (bW.pv ahead[k])::Pt xb 156 d.pv::Pt b9 264 [pP w 0]::Pt b8 4 [pB false]::Pt b7 45 [.raw (.slice none 0 0)]::Pt b6 154 [.list 2 .nil []]::L) u)
      (λcd u=>cd=.ret/\(∃q,x.T<((D q+cC es d.c ahead[k].binds q:Nat):Int))/\∃ph rs,Ow (Pt w 266 W.pv::eF W ph::an W.n x es ms ids::jy Wc 154 2 rs::Pt b12 193 (bW.pv ahead[k])::Pt xb 156 d.pv::Pt b9 264 [pP w 0]::Pt b8 4 [pB false]::Pt b7 45 [.raw (.slice none 0 0)]::Pt b6 154 [.list 2 .nil []]::L) u)
      (λm=>eC.and (eC.own _)) (λcd=>eC.and (eC.and (eC.ex λ_=>eC.ex λ_=>eC.own _))) (λμ' h'=>⟨by simpa using hD 0,?_⟩) ?_ ?_ ?_
     ·have e:my D 0 (D 0+0)=D:=by funext j;unfold my;split<;>simp_all
      rw[e,take_zero,map_nil,append_nil];exact Ow.ord [1,1,0] h'
     ·rintro m hm u2 R ⟨ZA,HZ⟩ ca iE;have sr:m<(aX d.c ahead[k].binds es).length:=by simpa using hm
      have sq:m<(stepT es d.c [ahead[k]]).length:=by rw[fC,length_map];exact sr
      rw[getElem_map];refine⟨_,_,_,_,_,_,_,_,_,_,_,_,_,_,rfl,_,HZ.rd 6 rfl (by simp),?_⟩;refine vL HZ 0 (by omega) (by unfold my;rw[if_pos rfl];omega) λu3 h3=>⟨_,rfl,?_⟩;have eu:my (my D 0 (D 0+m)) 0 (my D 0 (D 0+m) 0+1)=my D 0 (D 0+(m+1)):=by
       funext j;unfold my;by_cases e:j=0
       ·simp[e];omega
       ·simp[e]
      have ev:my D 0 (D 0+m) 0=D 0+m:=by unfold my;simp
      rw[eu]at h3;rw[ev];refine ab.mk (λcQ=>?_) (λCy=>?_)
      ·have Rn:x.T<((D 0+m+1:Nat):Int):=by simpa using cQ
       refine h3.st 9 rfl (by simp) λu4 h4=>h4.st 8 rfl (by simp) λu5 h5=>h5.st 7 rfl (by simp) λu6 h6=>iE _ _ ⟨rfl,⟨0,?_⟩,_,_,h6⟩;rw[HW];omega
      ·have HI:((D 0+m+1:Nat):Int)<=x.T:=by simpa using Cy
       obtain⟨f,ho⟩:=jy.open_ 3 h3 rfl;have hlen:((stepT es d.c (ahead.take k)).map bW.pv++((stepT es d.c [ahead[k]]).take m).map bW.pv).length<=2000000:=by
        rw[length_append,length_map,length_map,List.length_take];omega
       refine⟨_,_,ho.rd 0 rfl (by simp),_,_,ho.rd 5 rfl (by simp),_,_,ho.rd 5 rfl (by simp),_,_,ho.rd 5 rfl (by simp),by omega,by omega,by omega,rfl,?_⟩;refine Ow.aas ho (by simp;omega) (by simp;omega) λf1 u4 h4=>?_;refine Ow.app h4.swap rfl (by simp only[length_cons,length_nil];omega) (by simp only[length_cons,length_nil];omega) λf2 u5 h5=>h5.st 1 rfl (by simp) λu6 h6=>ca _ ⟨by omega,?_⟩;have e2:(stepT es d.c (ahead.take k)).map bW.pv++((stepT es d.c [ahead[k]]).take (m+1)).map bW.pv=((stepT es d.c (ahead.take k)).map bW.pv++((stepT es d.c [ahead[k]]).take m).map bW.pv)++[[.list 1 .sh (List.drop (toNat 0) (take (toNat (((ahead[k].tags.map λx=>[pI x]).length:Nat):Int)) (ahead[k].tags.map λx=>[pI x]))++[[pI (aX d.c ahead[k].binds es)[m].1.tag]]),.list 4 .sh ((aX d.c ahead[k].binds es)[m].2.map Bind.pv)]]:=by
        rw[eP sq,append_assoc];congr 2;have e3:(stepT es d.c [ahead[k]])[m]=⟨ahead[k].tags++[(aX d.c ahead[k].binds es)[m].1.tag],(aX d.c ahead[k].binds es)[m].2⟩:=by
         simp only[fC,getElem_map]
        rw[e3];have e4:take ahead[k].tags.length (ahead[k].tags.map λx=>[pI x])=ahead[k].tags.map λx=>[pI x]:=List.take_of_length_le (by simp);simp[e4]
       rw[e2];have h7:=Ow.ord [1,1,1,0] (jy.shut h6 (by simp only[length_append,length_cons,length_nil]));exact h7
     ·rintro u2 ⟨ZA,HZ⟩;rw[length_map]at ZA HZ;dsimp only[PK];have hfn:my D 0 (D 0+(aX d.c ahead[k].binds es).length)=λj=>D j+cC es d.c ahead[k].binds j:=by
       funext j;unfold my;cases j with
       |zero=>rw[if_pos rfl,HW]
       |succ j=>rw[if_neg (by omega),oB];rfl
      refine d_ u2 (λj=>?_) ?_
      ·rw[<- congrFun hfn j];unfold my;split
       ·exact ZA
       ·exact hD j
      ·rw[<- hfn];have hl:(aX d.c ahead[k].binds es).length=(stepT es d.c [ahead[k]]).length:=by rw[fC,length_map]
       rw[hl,take_length]at HZ;rw[hl];exact Ow.drop (Ow.ord [4] HZ)
     ·rintro cd u2 ⟨rfl,hq,ph,rs,HZ⟩;dsimp only[PK];refine⟨_,_,HZ.rd 9 rfl (by simp),_,_,_,HZ.rd 8 rfl (by simp),_,HZ.rd 7 rfl (by simp),?_⟩;exact .inr ⟨Bo hq,rfl,Ow.ord [0,2] (Ow.drop (Ow.drop HZ)) |> λh=>(Ow.tail h λ_ h=>h.tail λ_ h=>h.drop.drop.drop.drop.drop.drop)⟩
    ·have qu:¬d.c.kind=1:=by simpa using jB
     have fC:=Nj (es:=es) qu ahead[k];have hon:jz es [d.c] [ahead[k].binds]=iQ es d.c ahead[k].binds:=by simp[jz]
     have hY:∀j,sh 0 (cL es [d.c] [ahead[k].binds]) j=cC es d.c ahead[k].binds j:=λj=>by rw[Ez,SL];simp[dm]
     refine⟨_,mq.rd 6 rfl (by simp),_,_,_,_,_,_,_,_,_,_,mq.rd 5 rfl (by simp),_,_,mq.rd 4 rfl (by simp),?_⟩;have e1:[[pI d.c.kind,pB d.c.goal,pS d.c.id,.list 6 .sh (d.c.attr.map Test.pv),.list 6 .sh (d.c.value.map Test.pv),pB d.c.acc,.list 7 .sh (d.c.conds.map ae.pv)]]=[d.c].map ae.pv:=by rw[map_cons,map_nil,ae.cH]
     rw[e1];have acK:ah [d.c]=aO d.c:=by simp[ah]
     refine cOn (W:=W) hA hI ⟨hT0,hT1⟩ (by rw[hWm,hWN,hN]) (ah [d.c]) [d.c] .nr .sh ahead[k].binds 0 D (le_refl _) ⟨aI,trivial⟩ ⟨by rw[hWm];exact tE,trivial⟩ (by omega) hD (by omega) mq (λhE fr2 u2 HZ=>⟨_,_,_,rfl,ab.f rfl ?_⟩) (λ⟨q,hq⟩ ph u2 HZ=>⟨_,_,_,rfl,ab.t rfl ?_⟩)
     ·simp only[hY]at hE HZ;rw[hon,ij];refine ab.mk (λjO=>?_) (λjO=>?_)
      ·have hz:(iQ es d.c ahead[k].binds).isEmpty=false:=by
        have aQ:0<(iQ es d.c ahead[k].binds).length:=by simpa using jO
        cases hx:iQ es d.c ahead[k].binds with
        |nil=>rw[hx]at aQ;simp at aQ
        |cons y ys=>rfl
       rw[hz]at fC;obtain⟨f,ho⟩:=jy.open_ 3 HZ rfl;refine⟨_,_,ho.rd 0 rfl (by simp),_,_,_,_,ho.rd 5 rfl (by simp),?_⟩;refine Ow.app ho.swap rfl (by simp only[length_cons,length_nil,length_map];omega) (by simp only[length_cons,length_nil,length_map];omega) λf2 u5 h5=>h5.st 1 rfl (by simp) λu6 h6=>d_ _ hE ?_;rw[fC];have h7:=Ow.ord [1,1,1,0] (jy.shut h6 (by simp;done));exact Ow.drop (Ow.ord [4] h7)
      ·have hz:(iQ es d.c ahead[k].binds).isEmpty=true:=by
        have aQ:(iQ es d.c ahead[k].binds).length=0:=by simpa using jO
        rw[List.isEmpty_iff];exact List.eq_nil_of_length_eq_zero aQ
       rw[hz]at fC;refine d_ _ hE ?_;rw[fC];simp only[if_true,map_nil,append_nil];exact Ow.drop (Ow.ord [4] HZ)
     ·rw[hY]at hq;refine HZ.st 9 rfl (by simp) λu4 h4=>h4.st 8 rfl (by simp) λu5 h5=>h5.st 7 rfl (by simp) λu6 h6=>?_;refine⟨_,_,h6.rd 9 rfl (by simp[dx]),_,_,_,h6.rd 8 rfl (by simp[dx]),_,h6.rd 7 rfl (by simp[dx]),?_⟩;exact .inr ⟨Bo ⟨q,hq⟩,rfl,Ow.ord [0,2] (Ow.drop (Ow.drop h6)) |> λh=>(Ow.tail h λ_ h=>h.tail λ_ h=>h.drop.drop.drop.drop.drop.drop)⟩
   ·rintro u1 next ⟨hD,xz⟩
    refine ab.f (by simp) ?_;rw[take_length]at hD xz;obtain⟨f,mq⟩:=jy.end_ 3 xz rfl;have mq:Ow (Pt w 266 W.pv::eF W (λj=>du es d.c ahead j)::an W.n x es ms ids::Pt Wc 154 [.list 2 f ((stepT es d.c ahead).map bW.pv)]::Pt xb 156 d.pv::Pt b9 264 [pP w 0]::Pt b8 4 [pB false]::Pt b7 45 [.raw (.slice none 0 0)]::Pt b6 154 [.list 2 .nil []]::L) u1:=mq;have key:∀u',Ow (Pt w 266 W.pv::eF W (λj=>du es d.c ahead j)::an W.n x es ms ids::Pt Wc 154 [.list 2 f ((stepT es d.c ahead).map bW.pv)]::Pt xb 156 d.pv::Pt b9 264 [pP w 0]::Pt b8 4 [pB true]::Pt b7 45 [.raw (.slice W.a W.N W.c)]::Pt b6 154 [.list 2 f ((stepT es d.c ahead).map bW.pv)]::L) u'->
      ∃a c,ay u' b6 0 1=some [.list 2 f ((stepT es d.c ahead).map bW.pv)]/\ay u' b7 0 1=some [.raw (.slice a (aO d.c) c)]/\ay u' b8 0 1=some [pB true]/\Ow (cA 3 1 (.raw (.slice a (aO d.c) c)) ((range (aO d.c)).map λi=>[pI ((du es d.c ahead i:Nat):Int)])::an W.n x es ms ids::Pt xb 156 d.pv::L) u':=λu' h7=>by
     have h8:Ow (eF W (λj=>du es d.c ahead j)::an W.n x es ms ids::Pt xb 156 d.pv::L) u':=(Ow.ord [0,0,1] h7.drop).tail λ_ h=>h.tail λ_ h=>h.tail λ_ h=>h.drop.drop.drop.drop.drop;rw[ZC]at h8;refine⟨some ⟨zN,0,none⟩,aO d.c,h7.rd 8 rfl (by simp),?_,h7.rd 6 rfl (by simp),h8⟩;have h9:=h7.rd 7 (o:=0) (n:=1) rfl (by simp);subst hW;exact h9
    refine⟨_,_,mq.rd 3 rfl (by simp),⟨_,mq.rd 5 rfl (by simp),⟨_,_,_,mq.rd 0 rfl (by simp),mq.st 8 rfl (by simp) λu2 h2=>⟨h2.st 7 rfl (by simp) λu3 h3=>⟨h3.st 6 rfl (by simp) λu4 h4=>(let ⟨a,c,r1,r2,r3,hv⟩:=key _ h4;⟨_,_,r1,_,_,_,r2,_,r3,.inl ⟨hD,f,a,c,rfl,hv⟩⟩),trivial⟩,trivial⟩,trivial⟩,mq.st 8 rfl (by simp) λu2 h2=>⟨_,_,_,h2.rd 0 rfl (by simp),h2.st 7 rfl (by simp) λu3 h3=>⟨h3.st 6 rfl (by simp) λu4 h4=>(let ⟨a,c,r1,r2,r3,hv⟩:=key _ h4;⟨_,_,r1,_,_,_,r2,_,r3,.inl ⟨hD,f,a,c,rfl,hv⟩⟩),trivial⟩,trivial⟩,trivial⟩,mq.st 8 rfl (by simp) λu2 h2=>⟨_,h2.rd 5 rfl (by simp),_,_,_,h2.rd 0 rfl (by simp),h2.st 7 rfl (by simp) λu3 h3=>⟨h3.st 6 rfl (by simp) λu4 h4=>(let ⟨a,c,r1,r2,r3,hv⟩:=key _ h4;⟨_,_,r1,_,_,_,r2,_,r3,.inl ⟨hD,f,a,c,rfl,hv⟩⟩),trivial⟩,trivial⟩,trivial⟩
 ·rintro v μ' (⟨hc,f,a,c,rfl,h⟩|⟨hc,rfl,h⟩)
  ·obtain⟨mR,bs,h2,h3,hb⟩:=cA.frz h (xG _ _) (VG _ _);have e:((range (aO d.c)).map λi=>[pI ((du es d.c ahead i:Nat):Int)])=(kB es d.c ahead).map qg:=by unfold kB;rw[List.map_map];rfl
   rw[e]at hb;refine⟨_,mR,bs,gy.az (ds:=[.list 2 f ((stepT es d.c ahead).map bW.pv),.list 1 .sh ((kB es d.c ahead).map qg),pB true]) rfl (by simp[PV.ok,PV.cell]) (λi p q hp hq=>?_),h2,h1 hc f mR h3⟩
   match i with
   |0=>cases hp;cases hq;exact .same _
   |1=>cases hp;cases hq;exact hb
   |2=>cases hp;cases hq;exact .same _
   |i+3=>simp at hp
  ·refine⟨_,μ',[],gy.az (ds:=[.list 2 .nil [],.list 1 .sh [],pB false]) rfl (by simp[PV.ok,PV.cell]) (λi p q hp hq=>?_),λb o h=>⟨h,by simp⟩,h0 hc μ' h⟩
   match i with
   |0=>cases hp;cases hq;exact .same _
   |1=>cases hp;cases hq;exact .JW none 0 1 (.inl rfl)
   |2=>cases hp;cases hq;exact .same _
   |i+3=>simp at hp
end
theorem lQ{ms:dg}(hu:b_ aw bO ms)(y:Int×dX)(k:Int):aL aw bO k (aZ aw bO y ms)=if k=y.1 then some y else aL aw bO k ms:=by
 by_cases e:k=y.1
 ·rw[if_pos e];exact(a_ ar (hu.ins ar y)).2 ⟨(bh ar).2 (.inl rfl),e.symm⟩
 ·rw[if_neg e];cases hg:aL aw bO k ms with
  |some x=>
   obtain⟨h1,h2⟩:=(a_ ar hu).1 hg;refine(a_ ar (hu.ins ar y)).2 ⟨(bh ar).2 (.inr ⟨h1,λh=>e ?_⟩),h2⟩;exact h2.symm.trans h
  |none=>
   refine(bz ar).2 λx hx h=>?_;rcases(bh ar).1 hx with rfl|⟨h1,_⟩
   ·exact e h.symm
   ·exact(bz ar).1 hg x h1 h
theorem Ic{ms:dg}(hu:b_ aw bO ms)(j k:Int):aL aw bO k (bY aw bO j ms)=if k=j then none else aL aw bO k ms:=by
 by_cases e:k=j
 ·rw[if_pos e];exact(bz ar).2 λx hx h=>((eY ar).1 hx).2 (h.trans e)
 ·rw[if_neg e];cases hg:aL aw bO k ms with
  |some x=>
   obtain⟨h1,h2⟩:=(a_ ar hu).1 hg;exact(a_ ar (hu.del j)).2 ⟨(eY ar).2 ⟨h1,λh=>e (h2.symm.trans h)⟩,h2⟩
  |none=>exact(bz ar).2 λx hx h=>(bz ar).1 hg x ((eY ar).1 hx).1 h
def fJ(k:Int)(ms:dg):Int:=((aL aw bO k ms).map λx=>x.2.aM).getD 0
theorem sJ{ms:dg}(hu:b_ aw bO ms)(y:Int×dX)(k:Int):fJ k (aZ aw bO y ms)=if k=y.1 then y.2.aM else fJ k ms:=by
 unfold fJ;rw[lQ hu];split<;>rfl
theorem Jn{ms:dg}(hu:b_ aw bO ms)(j k:Int):fJ k (bY aw bO j ms)=if k=j then 0 else fJ k ms:=by
 unfold fJ;rw[Ic hu];split<;>rfl
theorem A_:∀{a b:List Int},a.Nodup->(∀x∈a,x∈b)->a.length<=b.length
 |[],_,_,_=>Nat.zero_le _
 |x::a,b,hn,hs=>by
  obtain⟨h1,h2⟩:=List.nodup_cons.1 hn
  have hx:=hs x (by simp);have:=A_ (b:=b.erase x) h2 λy hy=>(List.mem_erase_of_ne (by rintro rfl;exact h1 hy)).2 (hs y (by simp[hy]));rw[List.length_erase_of_mem hx]at this;have hp:0<b.length:=List.length_pos_of_mem hx;simp only[length_cons];omega
structure fi(es:List aj)(ms:dg)(l:List Int):Prop where
 inv:dr es ms
 use:∀k,0<=k->fJ k ms=(l.count k:Nat)
theorem fi.len{es:List aj}{ms:dg}{l:List Int}(h:fi es ms l):ms.length<=l.length:=by
 have:=A_ (a:=ms.map bO) (b:=l) ?_ ?_
 ·simpa using this
 ·have h1:(ms.map bO).Pairwise λa b=>aw a b<0:=by rw[List.pairwise_map];exact h.inv.mX
  refine h1.imp λ{a b} yG e=>?_;rw[e]at yG;exact absurd yG (by rw[ar.self b];omega)
 ·intro k hk;obtain⟨x,hx,rfl⟩:=mem_map.1 hk;have h2:=h.use (bO x) (h.inv.num x hx).1;have h3:aL aw bO (bO x) ms=some x:=(a_ ar h.inv.mX).2 ⟨hx,rfl⟩;unfold fJ at h2;rw[h3]at h2;have h4:x.2.aM=((l.count (bO x):Nat):Int):=h2;have h5:=(h.inv.aM x hx).1;exact List.count_pos_iff.1 (by omega)
theorem fi.us{es:List aj}{ms:dg}{l:List Int}(h:fi es ms l):∀x∈ms,x.2.aM<=(l.length:Nat):=λx hx=>by
 have h2:=h.use (bO x) (h.inv.num x hx).1;have h3:aL aw bO (bO x) ms=some x:=(a_ ar h.inv.mX).2 ⟨hx,rfl⟩;unfold fJ at h2;rw[h3]at h2;have h4:x.2.aM=((l.count (bO x):Nat):Int):=h2;have:=List.count_le_length (a:=bO x) (l:=l);omega
theorem fi.as{es:List aj}{ms:dg}{l l':List Int}(h:fi es ms l)(e:∀k,0<=k->l.count k=l'.count k):fi es ms l':=⟨h.inv,λk hk=>by rw[h.use k hk,e k hk]⟩
theorem fi.perm{es:List aj}{ms:dg}{l l':List Int}(h:fi es ms l)(e:l.Perm l'):fi es ms l':=h.as λk _=>e.count_eq k
def iq(ms cu:dg):Prop:=∀j d,dB ms j d->dB cu j d
theorem iq.refl(ms:dg):iq ms ms:=λ_ _ h=>h
theorem iq.trans{a b c:dg}(h:iq a b)(k:iq b c):iq a c:=λj d hm=>k j d (h j d hm)
theorem tH{ms cu:dg}{aB:List Int}(hk:∀j∈aB,∀d,dB ms j d->dB cu j d):∀(c:ae) (a:Nat),ki ms aB a c->ki cu aB a c:=by
 intro c;refine ae.ind (Q:=λc=>∀a,ki ms aB a c->ki cu aB a c) (λc ih a hf=>?_) c;have hl:∀(l:List ae),(∀d∈l,∀a,ki ms aB a d->ki cu aB a d)->∀a,vA ms aB a l->vA cu aB a l:=by
  intro l;induction l with
  |nil=>intro _ _ _;unfold vA;trivial
  |cons d l ih2=>
   intro h1 a h2;unfold vA at h2 |-;exact⟨h1 d (by simp) _ h2.1,ih2 (λd' hd=>h1 d' (by simp[hd])) _ h2.2⟩
 rw[vB]at hf |-;obtain⟨ha,hf⟩:=hf;refine⟨ha,?_⟩;by_cases h:c.kind=1\/c.kind=2
 ·rw[if_pos h]at hf |-;exact⟨λh'=>hk _ (getElem_mem ha) _ (hf.1 ha),hf.2⟩
 ·rw[if_neg h]at hf |-;exact hl _ ih _ hf
theorem Bv{ms cu:dg}{aB:List Int}(hk:iq ms cu)(c:ae)(a:Nat)(h:ki ms aB a c):ki cu aB a c:=tH (λj _ d=>hk j d) c a h
theorem Vz{ms:dg}{aB:List Int}:∀(c:ae) (a dp:Nat),tc c->(∀(q:Nat) (y:Nat×Nat×ae),(gD c a dp)[q]?=some y->∃h:a+q<aB.length,y.2.2.kind=3\/dB ms aB[a+q] y.2.2)->(∀(q:Nat) (y:Nat×Nat×ae),(gD c a dp)[q]?=some y->y.2.2.kind=3->¬(y.2.2.kind=1\/y.2.2.kind=2))->ki ms aB a c:=by
 intro c;refine ae.ind (Q:=λc=>∀(a dp:Nat),tc c->(∀(q:Nat) (y:Nat×Nat×ae),(gD c a dp)[q]?=some y->∃h:a+q<aB.length,y.2.2.kind=3\/dB ms aB[a+q] y.2.2)->(∀(q:Nat) (y:Nat×Nat×ae),(gD c a dp)[q]?=some y->y.2.2.kind=3->¬(y.2.2.kind=1\/y.2.2.kind=2))->ki ms aB a c) (λc ih a dp aI hp hx=>?_) c;have hl:∀(l:List ae),(∀d∈l,∀(a dp:Nat),tc d->(∀(q:Nat) (y:Nat×Nat×ae),(gD d a dp)[q]?=some y->∃h:a+q<aB.length,y.2.2.kind=3\/dB ms aB[a+q] y.2.2)->(∀(q:Nat) (y:Nat×Nat×ae),(gD d a dp)[q]?=some y->y.2.2.kind=3->¬(y.2.2.kind=1\/y.2.2.kind=2))->ki ms aB a d)->∀a dp,ta l->(∀(q:Nat) (y:Nat×Nat×ae),(cX l a dp)[q]?=some y->∃h:a+q<aB.length,y.2.2.kind=3\/dB ms aB[a+q] y.2.2)->(∀(q:Nat) (y:Nat×Nat×ae),(cX l a dp)[q]?=some y->y.2.2.kind=3->¬(y.2.2.kind=1\/y.2.2.kind=2))->vA ms aB a l:=by
  intro l;induction l with
  |nil=>intro _ _ _ _ _ _;unfold vA;trivial
  |cons d l ih2=>
   intro h1 a dp aI h2 h3;unfold ta at aI;unfold vA;have hlen:=nu d a dp;refine⟨h1 d (by simp) a dp aI.1 (λq y hy=>h2 q y ?_) (λq y hy=>h3 q y ?_),ih2 (λd' hd=>h1 d' (by simp[hd])) (a+aO d) dp aI.2 (λq y hy=>?_) (λq y hy=>?_)⟩
   ·simp only[cX];rw[List.getElem?_append_left (List.getElem?_eq_some_iff.1 hy).1];exact hy
   ·simp only[cX];rw[List.getElem?_append_left (List.getElem?_eq_some_iff.1 hy).1];exact hy
   ·have:=h2 (aO d+q) y (by simp only[cX];rw[List.getElem?_append_right (by omega),hlen];simpa using hy);simpa[add_assoc]using this
   ·exact h3 (aO d+q) y (by simp only[cX];rw[List.getElem?_append_right (by omega),hlen];simpa using hy)
 rw[LN]at hp hx;rw[vB];obtain⟨_,Bn,Mr⟩:=(mG c).1 aI;obtain⟨h0,h1⟩:=hp 0 _ rfl;refine⟨h0,?_⟩;by_cases h:c.kind=1\/c.kind=2
 ·rw[if_pos h];refine⟨λ_=>h1.resolve_left λh3=>hx 0 _ rfl h3 h,Bn h⟩
 ·rw[if_neg h];refine hl c.conds ih (a+1) (dp+1) Mr (λq y hy=>?_) (λq y hy=>hx (q+1) y (by simpa using hy));have:=hp (q+1) y (by simpa using hy);simpa[add_assoc,Nat.add_comm 1]using this
theorem fi.one{es:List aj}{ms:dg}{l:List Int}(h:fi es ms l)(hl:l.length<=900000){x:Int×dX}(hx:x∈ms){c:ae}(hc:x.2.c=bt c):
  fi es (aZ aw bO (x.1,{x.2 with aM:=x.2.aM+1}) ms) (x.1::l)/\dB (aZ aw bO (x.1,{x.2 with aM:=x.2.aM+1}) ms) x.1 c/\iq ms (aZ aw bO (x.1,{x.2 with aM:=x.2.aM+1}) ms):=by
 have hu:=h.inv.aM x hx;have NX:=h.us x hx;have hg:aL aw bO x.1 ms=some x:=(a_ ar h.inv.mX).2 ⟨hx,rfl⟩;refine⟨⟨h.inv.iM hx (x':=(x.1,{x.2 with aM:=x.2.aM+1})) rfl rfl rfl ⟨by show 1<=x.2.aM+1;omega,by show x.2.aM+1<1000000;omega⟩,λk hk=>?_⟩,⟨(x.1,{x.2 with aM:=x.2.aM+1}),by rw[lQ h.inv.mX,if_pos rfl],hc⟩,λj d ⟨y,hy,hd⟩=>?_⟩
 ·rw[sJ h.inv.mX,List.count_cons];by_cases e:k=x.1
  ·have h2:=h.use k hk;unfold fJ at h2;rw[e,hg]at h2;have h2:x.2.aM=((l.count x.1:Nat):Int):=h2;rw[if_pos e,e,if_pos (by simp)];show x.2.aM+1=_;omega
  ·rw[if_neg e,if_neg (by simpa using Ne.symm e),h.use k hk];rfl
 ·unfold dB;rw[lQ h.inv.mX];by_cases e:j=x.1
  ·rw[if_pos e];rw[e,hg]at hy;cases hy;exact⟨_,rfl,hd⟩
  ·rw[if_neg e];exact⟨y,hy,hd⟩
theorem fi.new{es:List aj}{ms:dg}{l:List Int}(h:fi es ms l)(hl:l.length<=900000){c:ae}(hlc:cW c)(hn:∀x∈ms,x.2.c≠bt c)(b:Nat):
  fi es (aZ aw bO (least ms,⟨bt c,1,b,es.filter (bg (bt c))⟩) ms) (least ms::l)/\dB (aZ aw bO (least ms,⟨bt c,1,b,es.filter (bg (bt c))⟩) ms) (least ms) c/\iq ms (aZ aw bO (least ms,⟨bt c,1,b,es.filter (bg (bt c))⟩) ms):=by
 have hle:=h.len;obtain⟨hg,hi⟩:=h.inv.new (Ee hlc) hn b (by omega);refine⟨⟨hi,λk hk=>?_⟩,⟨_,by rw[lQ h.inv.mX,if_pos rfl],rfl⟩,λj d ⟨y,hy,hd⟩=>?_⟩
 ·rw[sJ h.inv.mX,List.count_cons];by_cases e:k=least ms
  ·have h2:=h.use k hk;unfold fJ at h2;rw[e,hg]at h2;have h2:(0:Int)=((l.count (least ms):Nat):Int):=h2;rw[if_pos e,e,if_pos (by simp)];show(1:Int)=_;omega
  ·rw[if_neg e,if_neg (by simpa using Ne.symm e),h.use k hk];rfl
 ·unfold dB;rw[lQ h.inv.mX];by_cases e:j=least ms
  ·rw[e,hg]at hy;cases hy
  ·rw[if_neg e];exact⟨y,hy,hd⟩
theorem fi.less{es:List aj}{ms:dg}{k:Int}{l l':List Int}(h:fi es ms l)(e:∀j,l.count j=l'.count j+(if j=k then 1 else 0)):fi es (jn k ms) l'/\∀j d,j∈l'->dB ms j d->dB (jn k ms) j d:=by
 refine⟨⟨h.inv.leave k,λj hj=>?_⟩,λj d hj ⟨y,hy,hd⟩=>?_⟩
 ·have h2:=h.use j hj;have h3:=e j;unfold jn;cases hg:aL aw bO k ms with
  |none=>
   dsimp only;rw[h2];by_cases ejk:j=k
   ·rw[if_pos ejk]at h3;unfold fJ at h2;rw[ejk,hg]at h2;have h2:(0:Int)=((l.count k:Nat):Int):=h2;rw[ejk]at h3;omega
   ·rw[if_neg ejk]at h3;omega
  |some x=>
   obtain⟨hx,hxk⟩:=(a_ ar h.inv.mX).1 hg;dsimp only;split
   ·rename_i h1;rw[Jn h.inv.mX];by_cases ejk:j=k
    ·rw[if_pos ejk]at h3 |-;unfold fJ at h2;rw[ejk,hg]at h2;have h2:x.2.aM=((l.count k:Nat):Int):=h2;rw[ejk]at h3 |-;omega
    ·rw[if_neg ejk]at h3 |-;omega
   ·rename_i h1;rw[sJ h.inv.mX];by_cases ejk:j=k
    ·rw[if_pos ejk]at h3;rw[if_pos (show j=(k,({x.2 with aM:=x.2.aM-1}:dX)).1 from ejk)];unfold fJ at h2;rw[ejk,hg]at h2;have h2:x.2.aM=((l.count k:Nat):Int):=h2;show x.2.aM-1=_;rw[ejk]at h3 |-;omega
    ·rw[if_neg ejk]at h3;rw[if_neg (show ¬j=(k,({x.2 with aM:=x.2.aM-1}:dX)).1 from ejk)];omega
 ·unfold dB jn;cases hg:aL aw bO k ms with
  |none=>exact⟨y,hy,hd⟩
  |some x=>
   obtain⟨hx,hxk⟩:=(a_ ar h.inv.mX).1 hg;dsimp only;by_cases ejk:j=k
   ·rw[ejk,hg]at hy;cases hy;have h0:=h.inv.num y hx;have acA:y.1=k:=hxk;have h2:=h.use k (by omega);have h3:=e k;rw[if_pos rfl]at h3;unfold fJ at h2;rw[hg]at h2;have h2:y.2.aM=((l.count k:Nat):Int):=h2;have h4:0<l'.count k:=List.count_pos_iff.2 (ejk▸hj);rw[if_neg (by omega),lQ h.inv.mX,if_pos (show j=(k,({y.2 with aM:=y.2.aM-1}:dX)).1 from ejk)];exact⟨_,rfl,hd⟩
   ·split
    ·rw[Ic h.inv.mX,if_neg ejk];exact⟨y,hy,hd⟩
    ·rw[lQ h.inv.mX,if_neg (show ¬j=(k,({x.2 with aM:=x.2.aM-1}:dX)).1 from ejk)];exact⟨y,hy,hd⟩
section
variable {n:Nat} {x:NC} {es:List aj} {ids:pq}
theorem an.alpha{ms:dg}{L:List aR}{μ:Mem}(h:Ow (an n x es ms ids::L) μ):Ow (bB x.al es ms::Pt n 137 x.pv::gC x.id ids::L) μ:=(h.nest (L1:=[Pt n 137 x.pv,bB x.al es ms,gC x.id ids])).swap
theorem an.back{ms:dg}{L:List aR}{μ:Mem}(h:Ow (bB x.al es ms::Pt n 137 x.pv::gC x.id ids::L) μ):Ow (an n x es ms ids::L) μ:=Ow.pack (L1:=[Pt n 137 x.pv,bB x.al es ms,gC x.id ids]) h.swap
theorem ZP{ms:dg}{l:List Int}(hU:fi es ms l)(hl:l.length<=900000)(c:ae)(hlc:cW c){L:List aR}{μ:Mem}(hO:Ow (an n x es ms ids::L) μ){K:Kq}
  (hk:∀k cu,fi es cu (k::l)->dB cu k c->iq ms cu->∀μ',Ow (an n x es cu ids::L) μ'->K (pI k) μ'):aa prog 166 [pP x.al 0,.agg [pI c.kind,pB c.goal,pS c.id,.list 6 .sh (c.attr.map Test.pv),.list 6 .sh (c.value.map Test.pv),pB c.acc,.list 7 .sh (c.conds.map ae.pv)]] μ K:=by
 have hle:=hU.len;refine aao (an.alpha hO) hU.inv (by omega) (λy hy=>by have:=hU.us y hy;omega) c hlc (λy hy hc μ' h'=>?_) (λhn μ' b h'=>?_)
 ·obtain⟨h1,h2,h3⟩:=hU.one hl hy hc;exact hk _ _ h1 h2 h3 μ' (an.back h')
 ·obtain⟨h1,h2,h3⟩:=hU.new hl hlc hn b;exact hk _ _ h1 h2 h3 μ' (an.back h')
theorem VU{ms:dg}{k:Int}{l l':List Int}(hU:fi es ms l)(e:∀j,l.count j=l'.count j+(if j=k then 1 else 0)){L:List aR}{μ:Mem}(hO:Ow (an n x es ms ids::L) μ){K:Kq}
  (hk:∀b cu,fi es cu l'->(∀j d,j∈l'->dB ms j d->dB cu j d)->∀μ',Ow (an n x es cu ids::L) μ'->K (pB b) μ'):aa prog 171 [pP x.al 0,pI k] μ K:=by
 obtain⟨h1,h2⟩:=hU.less e;exact VZ (an.alpha hO) hU.inv k λμ' h'=>hk _ _ h1 h2 μ' (an.back h')
end
end Go.Proofs.YtbodiiomcfgokaaGreat
