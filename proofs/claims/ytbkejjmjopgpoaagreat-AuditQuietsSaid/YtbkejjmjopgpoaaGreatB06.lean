import Derived.Test.YtbkejjmjopgpoaaGreatB05
set_option linter.all false
namespace Go.az
open Go.RowKit
theorem rq(a:ByteArray):aG a a=true:=cf.2 rfl
theorem nO{a b:ByteArray}:aG a b=false↔a≠b:=by
 cases h:aG a b with
 |true=>simp[cf.1 h]
 |false=>
  simp only[true_iff]
  intro e
  rw[cf.2 e]at h;cases h
structure Sym where
 k:Int
 t:ByteArray
 n:Int
@[reducible] def Sym.pv(s:Sym):List PV:=[pI s.k,pS s.t,pI s.n]
structure av where
 id:Sym
 attr:Sym
 value:Sym
 acc:Bool
 goal:Bool
 tag:Int
@[reducible] def av.pv(e:av):List PV:=[pI e.id.k,pS e.id.t,pI e.id.n,pI e.attr.k,pS e.attr.t,pI e.attr.n,pI e.value.k,pS e.value.t,pI e.value.n,pB e.acc,pB e.goal,pI e.tag]
namespace an
end an
@[reducible] def bE(x y:Sym):Bool:=(x.k == y.k)&&(aG x.t y.t&&((x.n == y.n)&&true))
theorem aj.each{γ:Type}{body:(Int->γ->Prop)->Int->γ->Prop}{u:γ}{n:Nat}(hn:n<9223372036854775808)(I:Nat->γ->Prop)(h0:I 0 u)
  (gp:∀(k:Nat) (u:γ) (next:Int->γ->Prop),k<n->I k u->(∀u',I (k+1) u'->next (IntKind.wrap .i64 ((k:Int)+1)) u')->body next (k:Int) u) (dH:∀(u:γ) (next:Int->γ->Prop),I n u->body next (n:Int) u):aj body 0 u:=by
 refine aj.up n hn I h0 λk u next hk hI ar=>?_
 by_cases bB:k<n
 ·exact gp k u next bB hI (ar bB)
 ·have:k=n:=by omega
  subst this
  exact dH u next hI
theorem aj.ed{β γ:Type}{body:(β×Int->γ->Prop)->β×Int->γ->Prop}{x:β}{u:γ}{n:Nat}(hn:n<9223372036854775808)(I:Nat->β->γ->Prop)(h0:I 0 x u)
  (gp:∀(k:Nat) (x:β) (u:γ) (next:β×Int->γ->Prop),k<n->I k x u->(∀x' u',I (k+1) x' u'->next (x',IntKind.wrap .i64 ((k:Int)+1)) u')->body next (x,(k:Int)) u) (dH:∀(x:β) (u:γ) (next:β×Int->γ->Prop),I n x u->body next (x,(n:Int)) u):aj body (x,0) u:=by
 refine aj.up2 n hn I h0 λk x u next hk hI ar=>?_
 by_cases bB:k<n
 ·exact gp k x u next bB hI (ar bB)
 ·have:k=n:=by omega
  subst this
  exact dH x u next hI
theorem aj.from{γ:Type}{body:(Int->γ->Prop)->Int->γ->Prop}{u:γ}{n s:Nat}(hs:s<=n)(hn:n<9223372036854775808)(I:Nat->γ->Prop)(h0:I s u)
  (gp:∀(k:Nat) (u:γ) (next:Int->γ->Prop),s<=k->k<n->I k u->(∀u',I (k+1) u'->next (IntKind.wrap .i64 ((k:Int)+1)) u')->body next (k:Int) u) (dH:∀(u:γ) (next:Int->γ->Prop),I n u->body next (n:Int) u):aj body (s:Int) u:=by
 refine⟨λm x u=>∃k:Nat,x=(k:Int)/\s<=k/\k<=n/\I k u/\m=n-k,⟨n-s,s,rfl,Nat.le_refl _,hs,h0,rfl⟩,?_⟩
 rintro _ _ u ⟨k,rfl,hsk,hk,hI,rfl⟩
 by_cases bB:k<n
 ·refine gp k u _ hsk bB hI λu' dC=>?_
  rw[aB (by omega) (by omega)]
  exact⟨n-(k+1),by omega,k+1,by omega,by omega,by omega,dC,rfl⟩
 ·have:k=n:=by omega
  subst this
  exact dH u _ hI
theorem YM{lo hi:Nat}(h:lo<hi)(hn:hi<4611686018427387904):IntKind.wrap .i64 ((lo:Int)+IntKind.wrap .i64 (Int.tdiv (IntKind.wrap .i64 ((hi:Int)-(lo:Int))) 2))=((lo+(hi-lo)/2:Nat):Int):=by
 have e1:IntKind.wrap .i64 ((hi:Int)-(lo:Int))=((hi-lo:Nat):Int):=by rw[aB (by omega) (by omega)];omega
 rw[e1]
 have e2:Int.tdiv ((hi-lo:Nat):Int) 2=(((hi-lo)/2:Nat):Int):=by
  rw[Int.tdiv_eq_ediv_of_nonneg (by omega)];omega
 rw[e2,aB (x:=(((hi-lo)/2:Nat):Int)) (by omega) (by omega),aB (by omega) (by omega)]
 omega
theorem aj.bin{body:(Int×Int->Mem->Prop)->Int×Int->Mem->Prop}{u:Mem}{n:Nat}(hn:n<4611686018427387904)(c:Nat->Int)(A:Mem->Prop)(h0:A u)
  (m1:∀i j,i<j->j<n->c j<=0->c i<0) (m2:∀i j,i<j->j<n->0<=c i->0<c j)
  (gp:∀(lo hi nq:Nat) (u:Mem) (next:Int×Int->Mem->Prop),lo<hi->hi<=n->nq=lo+(hi-lo)/2->nq<n->A u->(c nq<0->∀u',A u'->next (((nq+1:Nat):Int),(hi:Int)) u')->(0<c nq->∀u',A u'->next ((lo:Int),(nq:Int)) u')->(c nq=0->∀i,i<nq->c i<0)->body next ((lo:Int),(hi:Int)) u)
  (dH:∀(k:Nat) (u:Mem) (next:Int×Int->Mem->Prop),A u->k<=n->(∀i,i<k->c i<0)->(∀i,k<=i->i<n->0<c i)->body next ((k:Int),(k:Int)) u):aj body (0,(n:Int)) u:=by
 refine⟨λm s w=>∃lo hi:Nat,s=((lo:Int),(hi:Int))/\lo<=hi/\hi<=n/\m=hi-lo/\A w/\(∀i,i<lo->c i<0)/\(∀i,hi<=i->i<n->0<c i),⟨n,0,n,rfl,by omega,Nat.le_refl _,by omega,h0,λi hi=>by omega,λi h1 h2=>by omega⟩,?_⟩
 rintro m s w ⟨lo,hi,rfl,hle,Zq,rfl,hA,h1,h2⟩
 by_cases bB:lo<hi
 ·refine gp lo hi (lo+(hi-lo)/2) w _ bB Zq rfl (by omega) hA (λhc u' hu=>⟨hi-(lo+(hi-lo)/2+1),by omega,_,hi,rfl,by omega,Zq,rfl,hu,λi wQ=>?_,h2⟩) (λhc u' hu=>⟨(lo+(hi-lo)/2)-lo,by omega,lo,_,rfl,by omega,by omega,rfl,hu,h1,λi hi1 hi2=>?_⟩) (λhc i wQ=>m1 i _ wQ (by omega) (by omega))
  ·by_cases e:i=lo+(hi-lo)/2
   ·subst e;exact hc
   ·exact m1 i (lo+(hi-lo)/2) (by omega) (by omega) (by omega)
  ·by_cases e:i=lo+(hi-lo)/2
   ·subst e;exact hc
   ·exact m2 (lo+(hi-lo)/2) i (by omega) hi2 (by omega)
 ·have:lo=hi:=by omega
  subst this
  exact dH lo w _ hA Zq h1 h2
structure kQ{T:Type}(c:T->T->Int):Prop where
 zero:∀a b,c a b=0↔a=b
 flip:∀a b,c a b<0↔0<c b a
 trans:∀a b d,c a b<0->c b d<0->c a d<0
def Up{T:Type}(c:T->T->Int)(L:List T):Prop:=L.Pairwise λa b=>c a b<0
theorem Up.lt{T:Type}{c:T->T->Int}{L:List T}(h:Up c L){i j:Nat}(hi:i<j)(hj:j<L.length):c (L[i]'(Nat.lt_trans hi hj)) L[j]<0:=List.pairwise_iff_getElem.1 h i j _ hj hi
structure bx{T:Type}(c:T->T->Int)(L:List T)(x:T)(k:Nat)(there:Bool):Prop where
 le:k<=L.length
 low:∀(i:Nat) (h:i<L.length),i<k->c L[i] x<0
 Qw:there=true->∃h:k<L.length,L[k]=x
 Me:there=false->∀(i:Nat) (h:i<L.length),k<=i->0<c L[i] x
theorem Up.We{T:Type}{c:T->T->Int}(hc:kQ c){L:List T}(hu:Up c L){x:T}{i j:Nat}(hi:i<j)(hj:j<L.length)(h:c L[j] x<=0):c (L[i]'(Nat.lt_trans hi hj)) x<0:=by
 have h1:=hu.lt hi hj
 by_cases h0:c L[j] x=0
 ·rw[(hc.zero _ _).1 h0]at h1;exact h1
 ·exact hc.trans _ _ _ h1 (by omega)
theorem Up.Wc{T:Type}{c:T->T->Int}(hc:kQ c){L:List T}(hu:Up c L){x:T}{i j:Nat}(hi:i<j)(hj:j<L.length)(h:0<=c (L[i]'(Nat.lt_trans hi hj)) x):0<c L[j] x:=by
 have h1:=hu.lt hi hj
 by_cases h0:c (L[i]'(Nat.lt_trans hi hj)) x=0
 ·rw[(hc.zero _ _).1 h0]at h1;exact(hc.flip _ _).1 h1
 ·have h2:c x (L[i]'(Nat.lt_trans hi hj))<0:=(hc.flip _ _).2 (by omega)
  exact(hc.flip _ _).1 (hc.trans _ _ _ h2 h1)
theorem tD:∀a:List UInt8,Op.bytesLess a a=false
 |[]=>rfl
 |x::a=>by simp[Op.bytesLess,tD a]
theorem rQ:∀{a b d:List UInt8},Op.bytesLess a b=true->Op.bytesLess b d=true->Op.bytesLess a d=true
 |[],[],_,h,_=>by simp[Op.bytesLess]at h
 |[],_::_,[],_,h=>by simp[Op.bytesLess]at h
 |[],_::_,_::_,_,_=>rfl
 |_::_,[],_,h,_=>by simp[Op.bytesLess]at h
 |_::_,_::_,[],_,h=>by simp[Op.bytesLess]at h
 |x::a,y::b,z::d,h,k=>by
  simp only[Op.bytesLess,Bool.or_eq_true,Bool.and_eq_true,decide_eq_true_eq,beq_iff_eq]at h k |-
  rcases h with h|⟨rfl,h⟩
  ·rcases k with k|⟨rfl,k⟩
   ·exact .inl (UInt8.lt_trans h k)
   ·exact .inl h
  ·rcases k with k|⟨rfl,k⟩
   ·exact .inl k
   ·exact .inr ⟨rfl,rQ h k⟩
theorem yz:∀a b:List UInt8,Op.bytesLess a b=true\/a=b\/Op.bytesLess b a=true
 |[],[]=>.inr (.inl rfl)
 |[],_::_=>.inl rfl
 |_::_,[]=>.inr (.inr rfl)
 |x::a,y::b=>by
  simp only[Op.bytesLess,Bool.or_eq_true,Bool.and_eq_true,decide_eq_true_eq,beq_iff_eq,List.cons.injEq]
  rcases UInt8.lt_or_lt_of_ne (a:=x) (b:=y) |> λh=>(Classical.em (x=y))with e|e
  ·subst e
   rcases yz a b with h|h|h
   ·exact .inl (.inr ⟨rfl,h⟩)
   ·exact .inr (.inl ⟨rfl,h⟩)
   ·exact .inr (.inr (.inr ⟨rfl,h⟩))
  ·rcases UInt8.lt_or_lt_of_ne e with h|h
   ·exact .inl (.inl h)
   ·exact .inr (.inr (.inl h))
def bN(a b:ByteArray):Int:=bif Op.bytesLess a.toList b.toList then -1 else bif !(Op.bytesLess a.toList b.toList||aG a b)then 1 else 0
theorem lX{a b:ByteArray}:bN a b<0↔Op.bytesLess a.toList b.toList=true:=by
 unfold bN
 cases Op.bytesLess a.toList b.toList<;>cases aG a b<;>simp
theorem lW{a b:ByteArray}:bN a b=0↔a=b:=by
 unfold bN
 rw[<- cf]
 cases h:Op.bytesLess a.toList b.toList
 ·cases aG a b<;>simp
 ·have:aG a b=false:=by
   cases hs:aG a b with
   |false=>rfl
   |true=>rw[cf.1 hs,tD]at h;cases h
  simp[this]
theorem Rb{a b:ByteArray}:0<bN a b↔Op.bytesLess b.toList a.toList=true:=by
 have e:0<bN a b↔¬bN a b<0/\¬bN a b=0:=by omega
 rw[e,lX,lW]
 constructor
 ·rintro⟨h1,h2⟩
  rcases yz a.toList b.toList with h|h|h
  ·exact absurd h h1
  ·exact absurd (cf.1 (by unfold aG;rw[h];simp)) h2
  ·exact h
 ·intro h
  refine⟨λh1=>?_,λh1=>?_⟩
  ·have:=rQ h h1;rw[tD]at this;cases this
  ·rw[h1,tD]at h;cases h
theorem dJ:kQ bN:=⟨λa b=>lW,λa b=>by rw[lX,Rb],λa b d h1 h2=>lX.2 (rQ (lX.1 h1) (lX.1 h2))⟩
abbrev bk:=Mem->Prop
def Ow:List bk->Mem->Prop
 |[],_=>True
 |A::L,μ=>∃μ1 μ2,Mem.sep μ1 μ2/\μ=μ1.or μ2/\A μ1/\Ow L μ2
theorem Mem.sep.symm{μ ν:Mem}(h:μ.sep ν):ν.sep μ:=λb=>(h b).symm
theorem Mem.or_comm{μ ν:Mem}(h:μ.sep ν):μ.or ν=ν.or μ:=by
 funext b
 unfold Mem.or
 rcases h b with e|e<;>rw[e]<;>cases hx:μ b<;>cases hy:ν b<;>simp_all
theorem Mem.or_assoc(a b c:Mem):(a.or b).or c=a.or (b.or c):=by
 funext x
 unfold Mem.or
 cases a x<;>rfl
theorem Mem.uM{a b c:Mem}:a.sep (b.or c)↔a.sep b/\a.sep c:=by
 constructor
 ·intro h
  refine⟨λx=>?_,λx=>?_⟩
  ·rcases h x with e|e
   ·exact .inl e
   ·right
    cases hb:b x with
    |none=>rfl
    |some o=>rw[Mem.aX hb]at e;cases e
  ·rcases h x with e|e
   ·exact .inl e
   ·right
    cases hb:b x with
    |none=>rw[Mem.bg hb]at e;exact e
    |some o=>rw[Mem.aX hb]at e;cases e
 ·rintro⟨h1,h2⟩ x
  rcases h1 x with e|e
  ·exact .inl e
  ·rcases h2 x with e'|e'
   ·exact .inl e'
   ·right;rw[Mem.bg e];exact e'
theorem Mem.Pl{a b c:Mem}:(a.or b).sep c↔a.sep c/\b.sep c:=by
 constructor
 ·intro h
  have:=Mem.uM.1 h.symm
  exact⟨this.1.symm,this.2.symm⟩
 ·rintro⟨h1,h2⟩
  exact(Mem.uM.2 ⟨h1.symm,h2.symm⟩).symm
theorem Ow.mono:∀{L:List bk} {μ μ':Mem},(∀b o,μ b=some o->μ' b=some o)->Ow L μ->Ow L μ'
 |[],_,_,_,_=>trivial
 |A::L,μ,μ',h,hO=>by
  obtain⟨μ1,μ2,hs,rfl,hA,hL⟩:=hO
  refine⟨μ1,λb=>match μ1 b with|some _=>none|none=>μ' b,λb=>?_,?_,hA,Ow.mono (λb o hb=>?_) hL⟩
  ·cases hb:μ1 b with
   |none=>exact .inl rfl
   |some o=>exact .inr (by simp[hb])
  ·funext b
   cases hb:μ1 b with
   |none=>rw[Mem.bg hb];simp[hb]
   |some o=>rw[Mem.aX hb];exact h b o (Mem.aX hb)
  ·have hn:μ1 b=none:=(hs b).resolve_right (by rw[hb];simp)
   simp only[hn]
   exact h b o (by rw[Mem.bg hn];exact hb)
theorem Ow.drop{A:bk}{L:List bk}{μ:Mem}(h:Ow (A::L) μ):Ow L μ:=by
 obtain⟨μ1,μ2,hs,rfl,_,hL⟩:=h
 exact hL.mono λb o hb=>by rw[Mem.bg ((hs b).resolve_right (by rw[hb];simp))];exact hb
theorem Ow.imp{A B:bk}{L:List bk}{μ:Mem}(h:Ow (A::L) μ)(hi:∀μ,A μ->B μ):Ow (B::L) μ:=by
 obtain⟨μ1,μ2,hs,e,hA,hL⟩:=h
 exact⟨μ1,μ2,hs,e,hi _ hA,hL⟩
theorem Ow.tail{A:bk}{L L':List bk}{μ:Mem}(h:Ow (A::L) μ)(hi:∀μ,Ow L μ->Ow L' μ):Ow (A::L') μ:=by
 obtain⟨μ1,μ2,hs,e,hA,hL⟩:=h
 exact⟨μ1,μ2,hs,e,hA,hi _ hL⟩
theorem Ow.swap{A B:bk}{L:List bk}{μ:Mem}(h:Ow (A::B::L) μ):Ow (B::A::L) μ:=by
 obtain⟨μ1,_,hs,rfl,hA,μ2,μ3,HZ,rfl,hB,hL⟩:=h
 obtain⟨wv,h13⟩:=Mem.uM.1 hs
 exact⟨μ2,μ1.or μ3,Mem.uM.2 ⟨wv.symm,HZ⟩,by rw[<- Mem.or_assoc,Mem.or_comm wv,Mem.or_assoc],hB,μ1,μ3,h13,rfl,hA,hL⟩
theorem Ow.at:∀{L:List bk} (i:Nat) {A:bk} {μ:Mem},L[i]?=some A->Ow L μ->Ow (A::L.eraseIdx i) μ
 |[],i,A,μ,h,_=>by simp at h
 |B::L,0,A,μ,h,hO=>by
  simp only[List.getElem?_cons_zero,Option.some.injEq]at h
  subst h;exact hO
 |B::L,i+1,A,μ,h,hO=>by
  simp only[List.getElem?_cons_succ]at h
  exact(hO.tail λμ h'=>Ow.at i h h').swap
theorem Ow.back:∀{L:List bk} (i:Nat) {A:bk} {μ:Mem},i<L.length->Ow (A::L.eraseIdx i) μ->Ow (L.set i A) μ
 |[],i,A,μ,h,_=>by simp at h
 |B::L,0,A,μ,h,hO=>hO
 |B::L,i+1,A,μ,h,hO=>(Ow.swap hO).tail λμ h'=>Ow.back i (by simpa using h) h'
theorem uZ{α:Type}{L:List α}{i:Nat}{a:α}(h:L[i]?=some a):i<L.length:=(List.getElem?_eq_some_iff.1 h).1
theorem Ow.nest:∀{L1 L:List bk} {μ:Mem},Ow (Ow L1::L) μ->Ow (L1++L) μ
 |[],L,μ,h=>h.drop
 |A::L1,L,μ,h=>by
  obtain⟨_,μ2,hs,rfl,⟨μa,μb,HZ,rfl,hA,hB⟩,hL⟩:=h
  obtain⟨h1,h2⟩:=Mem.Pl.1 hs
  exact⟨μa,μb.or μ2,Mem.uM.2 ⟨HZ,h1⟩,Mem.or_assoc _ _ _,hA,Ow.nest ⟨μb,μ2,h2,rfl,hB,hL⟩⟩
theorem Ow.pack:∀{L1 L:List bk} {μ:Mem},Ow (L1++L) μ->Ow (Ow L1::L) μ
 |[],L,μ,h=>⟨M0,μ,Mem.rG μ,(Mem.BM μ).symm,trivial,h⟩
 |A::L1,L,μ,h=>by
  obtain⟨μa,_,hs,rfl,hA,h⟩:=h
  obtain⟨μb,μ2,HZ,rfl,hB,hL⟩:=Ow.pack h
  obtain⟨h1,h2⟩:=Mem.uM.1 hs
  exact⟨μa.or μb,μ2,Mem.Pl.2 ⟨h2,HZ⟩,(Mem.or_assoc _ _ _).symm,⟨μa,μb,h1,rfl,hA,hB⟩,hL⟩
theorem Ow.ex{α:Type}{A:α->bk}{L:List bk}{μ:Mem}(h:Ow ((λμ=>∃x,A x μ)::L) μ):∃x,Ow (A x::L) μ:=by
 obtain⟨μ1,μ2,hs,e,⟨x,hA⟩,hL⟩:=h
 exact⟨x,μ1,μ2,hs,e,hA,hL⟩
theorem Ow.and{p:Prop}{A:bk}{L:List bk}{μ:Mem}(h:Ow ((λμ=>p/\A μ)::L) μ):p/\Ow (A::L) μ:=by
 obtain⟨μ1,μ2,hs,e,⟨hp,hA⟩,hL⟩:=h
 exact⟨hp,μ1,μ2,hs,e,hA,hL⟩
def Pt(b:Nat)(T:TypeId)(cs:List PV):bk:=λμ=>μ b=some (.cells T cs)
theorem Ow.get{L:List bk}{μ:Mem}(i:Nat){b:Nat}{T:TypeId}{cs:List PV}(hO:Ow L μ)(hi:L[i]?=some (Pt b T cs)):μ b=some (.cells T cs):=by
 obtain⟨μ1,μ2,hs,rfl,hA,_⟩:=Ow.at i hi hO
 exact Mem.aX hA
theorem Ow.rd{L:List bk}{μ:Mem}(i:Nat){b:Nat}{T:TypeId}{cs:List PV}{o n:Nat}(hO:Ow L μ)(hi:L[i]?=some (Pt b T cs))(hl:o+n<=cs.length):aN μ b o n=some ((cs.drop o).take n):=bM (hO.get i hi) hl
theorem Ow.put{L:List bk}{μ:Mem}{b:Nat}{T T':TypeId}{cs cN:List PV}(hO:Ow (Pt b T cs::L) μ):Ow (Pt b T' cN::L) (μ.set b (some (.cells T' cN))):=by
 obtain⟨μ1,μ2,hs,rfl,hA,hL⟩:=hO
 have hn:μ2 b=none:=(hs b).resolve_left (by rw[hA];simp)
 refine⟨μ1.set b (some (.cells T' cN)),μ2,λx=>?_,?_,Mem.ai _ _ _,hL⟩
 ·by_cases e:x=b
  ·subst e;exact .inr hn
  ·rw[Mem.aw _ _ e];exact hs x
 ·funext x
  by_cases e:x=b
  ·subst e;rw[Mem.ai,Mem.aX (Mem.ai _ _ _)]
  ·rw[Mem.aw _ _ e];unfold Mem.or;rw[Mem.aw _ _ e]
theorem Ow.st{L:List bk}{μ:Mem}(i:Nat){b:Nat}{T:TypeId}{cs:List PV}{o:Nat}{vs:List PV}{K:Mem->Prop}(hO:Ow L μ)(hi:L[i]?=some (Pt b T cs))(hl:o+vs.length<=cs.length)(hk:∀μ',Ow (L.set i (Pt b T (ei cs o vs))) μ'->K μ'):stM b o vs μ K:=
 ⟨T,cs,hO.get i hi,hl,hk _ (Ow.back i (uZ hi) (Ow.at i hi hO).put)⟩
theorem Ow.new{L:List bk}{μ:Mem}{b:Nat}(T:TypeId)(cs:List PV)(hO:Ow L μ)(hb:μ b=none):Ow (Pt b T cs::L) (μ.set b (some (.cells T cs))):=by
 refine⟨M0.set b (some (.cells T cs)),μ,λx=>?_,?_,Mem.ai _ _ _,hO⟩
 ·by_cases e:x=b
  ·subst e;exact .inr hb
  ·rw[Mem.aw _ _ e];exact .inl rfl
 ·funext x
  by_cases e:x=b
  ·subst e;rw[Mem.ai,Mem.aX (Mem.ai _ _ _)]
  ·rw[Mem.aw _ _ e,Mem.bg (by rw[Mem.aw _ _ e];rfl)]
theorem vJ.frame{P:Program}{f:PV}{args:List PV}{μ ν:Mem}{K:Kq}(h:vJ P f args μ K)(hs:μ.sep ν):vJ P f args (μ.or ν) λv μ'=>∃μ1,μ1.sep ν/\μ'=μ1.or ν/\K v μ1:=λZ u fv vs hg hw hfv ha=>by
 have hμ:∀b o,μ b=some o->(o.rw=true->u.eN b)/\zE Z u b o:=λb o e=>hg.mem b o (Mem.aX e)
 have hν:∀b o,ν b=some o->μ b=none/\(o.rw=true->u.eN b)/\zE Z u b o:=λb o e=>by
  have hn:μ b=none:=(hs b).resolve_right (by rw[e];simp)
  exact⟨hn,hg.mem b o (by rw[Mem.bg hn];exact e)⟩
 have GG:Good Z ⟨u.toWorld,λb=>∃o,μ b=some o/\o.rw=true⟩ μ:=⟨hg.DN,λb o e=>⟨λhr=>⟨o,e,hr⟩,(hμ b o e).2⟩⟩
 obtain⟨F,hF,dG⟩:=iy.1 (h Z ⟨u.toWorld,λb=>∃o,μ b=some o/\o.rw=true⟩ fv vs GG (λb ⟨o,ho,_⟩=>GG.qa (by rw[ho];simp)) hfv ha)
 refine iy.2 ⟨F,λb hb=>?_,dG.mono λv lo w' hm Wr _ hp=>?_⟩
 ·obtain⟨o,ho,hr⟩:=hF b hb
  exact(hμ b o ho).1 hr
 ·obtain⟨Z',μ1,p,e,g',hr,hK⟩:=hp
  have hnb:∀b o,ν b=some o->w'.heap[b]?=u.heap[b]?/\Z' b=Z b/\μ1 b=none:=λb o hb=>by
   obtain⟨h1,_,h2⟩:=hν b o hb
   have bB:=h2.lt
   refine⟨hm.bV b bB λhf=>(by obtain⟨o',Ql,_⟩:=hF b hf;rw[h1]at Ql;cases Ql),?_,?_⟩
   ·cases hz:Z b with
    |some C=>exact e.zs b C hz h1
    |none=>
     cases nE:Z' b with
     |none=>rfl
     |some C=>
      rcases e.zn b (by rw[nE];simp)with h3|h3|h3
      ·exact absurd hz h3
      ·exact absurd h1 h3
      ·have:u.heap.size<=b:=h3;omega
   ·cases hx:μ1 b with
    |none=>rfl
    |some o'=>
     rcases e.mn b (by rw[hx];simp)with h3|h3
     ·exact absurd h1 h3
     ·have:u.heap.size<=b:=h3;omega
  refine⟨Z',μ1.or ν,p,⟨e.le,λb C hb hn=>?_,λb hb=>?_,λb hb=>?_,e.lt⟩,⟨g'.DN,λb o ho=>?_⟩,hr,μ1,λb=>?_,rfl,hK⟩
  ·refine e.zs b C hb ?_
   cases hx:μ b with
   |none=>rfl
   |some o=>rw[Mem.aX hx]at hn;cases hn
  ·rcases e.zn b hb with h3|h3|h3
   ·exact .inl h3
   ·refine .inr (.inl ?_)
    cases hx:μ b with
    |none=>exact absurd hx h3
    |some o=>rw[Mem.aX hx];simp
   ·exact .inr (.inr h3)
  ·rcases Mem.V_ hb with h3|h3
   ·rcases e.mn b h3 with h4|h4
    ·left
     cases hx:μ b with
     |none=>exact absurd hx h4
     |some o=>rw[Mem.aX hx];simp
    ·exact .inr h4
   ·cases hx:ν b with
    |none=>exact absurd hx h3
    |some o=>exact .inl (by rw[Mem.bg (hν b o hx).1,hx];simp)
  ·cases hx:μ1 b with
   |some o'=>
    rw[Mem.aX hx]at ho;cases ho
    obtain⟨p1,p2⟩:=g'.mem b _ hx
    refine⟨λGA=>?_,p2⟩
    rcases p1 GA with⟨o2,hy,GC⟩|p1
    ·exact .inl ((hμ b o2 hy).1 GC)
    ·exact .inr p1
   |none=>
    rw[Mem.bg hx]at ho
    obtain⟨h1,h2,h3⟩:=hν b o ho
    obtain⟨h4,h5,h6⟩:=hnb b o ho
    exact⟨λGA=>.inl (h2 GA),h3.go e.le h5 h4⟩
  ·cases hx:ν b with
   |none=>exact .inr rfl
   |some o=>exact .inl (hnb b o hx).2.2
theorem bc.frame{P:Program}{f:PV}{args:List PV}{μ ν:Mem}{K:Kq}(h:bc P f args μ K)(hs:μ.sep ν):bc P f args (μ.or ν) λv μ'=>∃μ1,μ1.sep ν/\μ'=μ1.or ν/\K v μ1:=by
 unfold bc at h |-
 split at h
 ·exact h.frame hs
 ·exact vJ.frame h hs
theorem Ow.FU{P:Program}{f:PV}{args:List PV}{A:bk}{B:PV->bk}{L:List bk}{μ:Mem}{K:Kq}(hO:Ow (A::L) μ)(h:∀μ1,A μ1->bc P f args μ1 B)(hk:∀p μ',Ow (B p::L) μ'->K p μ'):bc P f args μ K:=by
 obtain⟨μ1,μ2,hs,rfl,hA,hL⟩:=hO
 refine(bc.frame (h μ1 hA) hs).mono λv μ' ⟨μ1',Af,e,hB⟩=>hk v μ' ?_
 subst e
 exact⟨μ1',μ2,Af,rfl,hB,hL⟩
theorem Ow.mv{A:bk}{L:List bk}{μ μ':Mem}{F F':List Nat}{B:bk}(hO:∃μ1 μ2,Mem.sep μ1 μ2/\μ=μ1.or μ2/\(∀x∈F,μ1 x≠none)/\Ow L μ2)(hm:Mv μ μ' F F')(hB:∀ν,(∀x∈F',ν x=μ' x)->B ν):Ow (B::L) μ':=by
 obtain⟨μ1,μ2,hs,rfl,hF,hL⟩:=hO
 have h2:∀x o,μ2 x=some o->μ' x=some o/\x∉F':=λx o hx=>by
  have h1:μ1 x=none:=(hs x).resolve_right (by rw[hx];simp)
  have qv:(μ1.or μ2) x=some o:=by rw[Mem.bg h1];exact hx
  have hn:x∉F:=λhf=>hF x hf h1
  refine⟨by rw[hm.bV x (by rw[qv];simp) hn];exact qv,λhf=>?_⟩
  rcases hm.grow x hf with h|h
  ·exact hn h
  ·rw[qv]at h;cases h
 refine⟨λx=>match μ2 x with|some _=>none|none=>μ' x,μ2,λx=>?_,?_,hB _ λx hx=>?_,hL⟩
 ·cases hx:μ2 x with
  |none=>exact .inr rfl
  |some o=>exact .inl (by simp[hx])
 ·funext x
  cases hx:μ2 x with
  |none=>
   unfold Mem.or
   simp only[hx]
   cases μ' x<;>rfl
  |some o=>
   rw[Mem.bg (by simp[hx]),hx];exact(h2 x o hx).1
 ·cases xt:μ2 x with
  |none=>simp[xt]
  |some o=>exact absurd hx (h2 x o xt).2
def m_(fl:Fl)(n size:Nat):bk:=wI fl n size
theorem Ow.nil{L:List bk}{μ:Mem}(hO:Ow L μ){n size:Nat}{fl:Fl}(h:fl=.nil\/fl=.nr):Ow (m_ fl n size::L) μ:=
 ⟨M0,μ,Mem.rG μ,(Mem.BM μ).symm,by rcases h with rfl|rfl<;>exact trivial,hO⟩
theorem Ow.app{L:List bk}{μ:Mem}{size bytes:Nat}{fl:Fl}{n:Nat}{rows new:Lq}{K:Fl->Mem->Prop}(hO:Ow (m_ fl n size::L) μ)(hn:rows.length=n)(hb:(n+new.length)*bytes<=140737488355328)(nH:n+new.length<4611686018427387904)
  (hk:∀iD μ',Ow (m_ iD (n+new.length) size::L) μ'->K iD μ'):bF false size bytes fl rows new μ K:=by
 subst hn
 obtain⟨μ1,μ2,hs,rfl,hT,hL⟩:=hO
 have hT':wI fl rows.length size (μ1.or μ2):=by
  cases fl with
  |mS b c=>exact Mem.aX hT
  |sh=>exact hT
  |nr=>trivial
  |nil=>trivial
 refine bF.go hT' hb nH λiD μ' h1 h2=>hk iD μ' ?_
 have h3:∀x o,μ2 x=some o->μ' x=some o/\¬iD.at x:=λx o hx=>by
  have yH:μ1 x=none:=(hs x).resolve_right (by rw[hx];simp)
  refine h2 x o (by rw[Mem.bg yH];exact hx) λnG=>?_
  cases fl with
  |mS b c=>
   have:x=b:=nG
   subst this
   have:μ1 x=_:=hT
   rw[this]at yH;cases yH
  |sh=>exact nG
  |nr=>exact nG
  |nil=>exact nG
 refine⟨λx=>match μ2 x with|some _=>none|none=>μ' x,μ2,λx=>?_,?_,?_,hL⟩
 ·cases hx:μ2 x with
  |none=>exact .inr rfl
  |some o=>exact .inl (by simp[hx])
 ·funext x
  cases hx:μ2 x with
  |none=>
   unfold Mem.or
   simp only[hx]
   cases μ' x<;>rfl
  |some o=>rw[Mem.bg (by simp[hx]),hx];exact(h3 x o hx).1
 ·show wI _ _ _ _
  cases iD with
  |mS b c=>
   have jO:μ' b=_:=h1
   cases hx:μ2 b with
   |none=>simp only[wI,hx];exact jO
   |some o=>exact absurd rfl (h3 b o hx).2
  |sh=>exact h1
  |nr=>trivial
  |nil=>trivial
def jD(e:TypeId)(sz:Nat)(p:PV)(rows:Lq):bk:=λμ=>∃F,vD e sz μ p rows F
theorem jD.nil(e:TypeId)(sz:Nat){L:List bk}{μ:Mem}(hO:Ow L μ):Ow (jD e sz (.raw (.slice none 0 0)) []::L) μ:=⟨M0,μ,Mem.rG μ,(Mem.BM μ).symm,⟨[],.inl ⟨rfl,rfl,rfl⟩⟩,hO⟩
theorem jD.split{e:TypeId}{sz:Nat}{p:PV}{rows:Lq}{L:List bk}{μ:Mem}(hO:Ow (jD e sz p rows::L) μ):∃F,vD e sz μ p rows F/\∃μ1 μ2,Mem.sep μ1 μ2/\μ=μ1.or μ2/\(∀x∈F,μ1 x≠none)/\Ow L μ2:=by
 obtain⟨μ1,μ2,hs,rfl,⟨F,h⟩,hL⟩:=hO
 refine⟨F,h.same λx hx=>?_,μ1,μ2,hs,rfl,h.at_,hL⟩
 cases hy:μ1 x with
 |none=>exact absurd hy (h.at_ x hx)
 |some o=>rw[Mem.aX hy]
theorem jD.app{e:TypeId}{sz:Nat}{p:PV}{rows:Lq}{L:List bk}{μ:Mem}(hO:Ow (jD e sz p rows::L) μ)(hr:∀r∈rows,r.length=sz):∃a c,p=.raw (.slice a rows.length c)/\
  ∀(r:List PV) (bytes:Nat) (K:Option Addr->Nat->Nat->Mem->Prop),r.length=sz->aE r=true->(rows.length+1)*bytes<=140737488355328->rows.length+1<4611686018427387904->
   (∀b' c' μ2,Ow (jD e sz (.raw (.slice (some ⟨b',0,none⟩) (rows.length+1) c')) (rows++[r])::L) μ2->K (some ⟨b',0,none⟩) (rows.length+1) c' μ2)->
   iw sz bytes e a rows.length c (.list sz .nr [r]) μ K:=by
 obtain⟨F,h,NA⟩:=jD.split hO
 obtain⟨a,c,rfl,jQ⟩:=h.app hr
 refine⟨a,c,rfl,λr bytes K hl gu hb nH hK=>jQ r bytes K hl gu hb nH λb' c' rest μ2 jO kK jN hm=>hK b' c' μ2 ?_⟩
 refine Ow.mv (A:=λ_=>True) NA hm λν hν=>⟨[b'],.inr ⟨b',c',rest,by simp,rfl,?_,by simpa using kK,by simpa using jN⟩⟩
 rw[hν b' (by simp)];exact jO
def eG(A:bk):Prop:=∀μ μ':Mem,(∀b o,μ b=some o->μ' b=some o)->A μ->A μ'
theorem eG.own(L:List bk):eG (Ow L):=λ_ _ h hO=>hO.mono h
theorem eG.ex{α:Type}{A:α->bk}(h:∀x,eG (A x)):eG λμ=>∃x,A x μ:=λμ μ' hs ⟨x,hx⟩=>⟨x,h x μ μ' hs hx⟩
theorem eG.and{p:Prop}{A:bk}(h:eG A):eG λμ=>p/\A μ:=λμ μ' hs ⟨hp,hx⟩=>⟨hp,h μ μ' hs hx⟩
theorem eG.one{A:bk}(h:eG A){μ:Mem}(hO:Ow [A] μ):A μ:=by
 obtain⟨μ1,μ2,hs,rfl,hA,_⟩:=hO
 exact h μ1 _ (λb o hb=>Mem.aX hb) hA
theorem Ow.one{A:bk}{μ:Mem}(h:A μ):Ow [A] μ:=⟨μ,M0,(Mem.rG μ).symm,(Mem.tw μ).symm,h,trivial⟩
theorem Ow.TD{L:List bk}{μ:Mem}(h:Ow [Ow L] μ):Ow L μ:=(eG.own L).one h
def Rc(l:Nat)(o:Ob):bk:=λμ=>μ l=some o
def jY(P:Program)(f:PV)(items:Lq)(A A':bk):Prop:=
 (∃g a b,f=.fn (.func g) a b)/\∀(fy:Fn) (ya yb:List PV) (I:Nat->bk) (S:bk) (C:bk) (μ:Mem),qy fy True->Ow [A,C] μ->(∀μ',Ow [A',C] μ'->Ow [I 0] μ')->
  (∀(k:Nat) (h:k<items.length) (μ:Mem),I k μ->bc P (.fn fy ya yb) items[k] μ λv μ'=>(v=pB true/\Ow [I (k+1)] μ')\/(v=pB false/\Ow [S] μ'))->
  bc P f [.fn fy ya yb] μ λ_ μ'=>Ow [I items.length] μ'\/Ow [S] μ'
theorem jY.mk{P:Program}{g:FuncId}{a b:List PV}{items:Lq}{A A':bk}
  (h:∀(fy:Fn) (ya yb:List PV) (I:Nat->bk) (S:bk) (C:bk) (μ:Mem),qy fy True->Ow [A,C] μ->(∀μ',Ow [A',C] μ'->Ow [I 0] μ')->
   (∀(k:Nat) (h:k<items.length) (μ:Mem),I k μ->bc P (.fn fy ya yb) items[k] μ λv μ'=>(v=pB true/\Ow [I (k+1)] μ')\/(v=pB false/\Ow [S] μ'))->
   ab P g (a++[.fn fy ya yb]++b) μ λ_ μ'=>Ow [I items.length] μ'\/Ow [S] μ'):jY P (.fn (.func g) a b) items A A':=
 ⟨⟨g,a,b,rfl⟩,λfy ya yb I S C μ hy h0 h1 cQ=>h fy ya yb I S C μ hy h0 h1 cQ⟩
theorem jY.ofP{P:Program}{f:PV}{items:Lq}(h:Jf P f items):jY P f items (λ_=>True) (λ_=>True):=by
 refine⟨h.1,λfy ya yb I S C μ hy hO h0 cQ=>?_⟩
 have hl:(items.map tQ).length=items.length:=by simp
 have:=h.2 fy ya yb (λk=>Ow [I k]) (Ow [S]) μ hy (λμ' e=>by subst e;exact h0 _ hO) (λk hk vs μ1 μ2 hI Qw=>?_)
 ·rw[hl]at this;exact this
 ·have eQ:k<items.length:=by simpa using hk
  simp only[List.getElem_map,tQ]at Qw
  obtain⟨rfl,rfl⟩:=Qw
  refine Ow.FU hI (λν hν=>cQ k eQ ν hν) λp μ' hO=>?_
  obtain⟨ν1,ν2,hs,rfl,(⟨rfl,h1⟩|⟨rfl,h1⟩),_⟩:=hO
  ·exact .inl ⟨rfl,h1.mono λb o hb=>Mem.aX hb⟩
  ·exact .inr ⟨rfl,h1.mono λb o hb=>Mem.aX hb⟩
theorem Ow.B_{p q:Prop}{A B:bk}{L:List bk}{μ:Mem}(h:Ow ((λμ=>(p/\Ow [A] μ)\/(q/\Ow [B] μ))::L) μ):(p/\Ow (A::L) μ)\/(q/\Ow (B::L) μ):=by
 obtain⟨μ1,μ2,hs,rfl,(⟨hp,h1⟩|⟨hp,h1⟩),hL⟩:=h
 ·exact .inl ⟨hp,Ow.nest (L1:=[A]) ⟨μ1,μ2,hs,rfl,h1,hL⟩⟩
 ·exact .inr ⟨hp,Ow.nest (L1:=[B]) ⟨μ1,μ2,hs,rfl,h1,hL⟩⟩
theorem bJ.own{P:Program}{f:PV}{items:Lq}{A A':bk}{L:List bk}{body:List PV->(Option Code->Mem->Prop)->Mem->Prop}{K:Option Code->Mem->Prop}{μ:Mem}(hs:jY P f items A A')(hO:Ow (A::L) μ)
  (I:Nat->bk) (S:Code->bk) (hI:∀k,eG (I k)) (hS:∀c,eG (S c)) (h0:∀μ',Ow (A'::L) μ'->I 0 μ')
  (cQ:∀(k:Nat) (h:k<items.length) (μ:Mem) (R:Option Code->Mem->Prop),I k μ->(∀μ',I (k+1) μ'->R none μ')->(∀c μ',S c μ'->R (some c) μ')->body items[k] R μ)
  (Qy:∀μ,I items.length μ->K none μ) (Fg:∀c μ,S c μ->K (some c) μ):bJ P f body K μ:=by
 obtain⟨hf,hs⟩:=hs
 refine⟨hf,λl rec hl hy=>?_⟩
 have cut:∀{ν:Mem} {o:Ob} {M:List bk},Ow (Rc l o::M) ν->ν l=some o/\Ow M (ν.set l none):=λ{ν o M} h=>by
  obtain⟨ν1,ν2,kZ,rfl,hR,hM⟩:=h
  refine⟨Mem.aX hR,hM.mono λb o' hb=>?_⟩
  have zR:ν1 b=none:=(kZ b).resolve_right (by rw[hb];simp)
  have bm:b≠l:=by
   rintro rfl
   have:ν1 b=_:=hR
   rw[this]at zR;cases zR
  rw[Mem.aw _ _ bm,Mem.bg zR];exact hb
 have glue:∀{ν:Mem} {o:Ob},ν l=some o->ν=(ν.set l none).set l (some o):=λ{ν o} h=>by
  rw[Mem.set_set,Mem.s_ h]
 have lift:∀{ν μ3:Mem} {o:Ob} {ν1 ν2:Mem},μ3 l=none->ν1=μ3.set l (some o)->Mem.sep ν1 ν2->ν=ν1.or ν2->ν l=some o/\∀b o',μ3 b=some o'->(ν.set l none) b=some o':=λ{ν μ3 o ν1 ν2} h1 h2 kZ e=>by
  subst h2 e
  refine⟨Mem.aX (Mem.ai _ _ _),λb o' hb=>?_⟩
  have bm:b≠l:=by rintro rfl;rw[h1]at hb;cases hb
  rw[Mem.aw _ _ bm]
  exact Mem.aX (by rw[Mem.aw _ _ bm];exact hb)
 refine(hs (.yield l) [] [] (λk ν=>∃μ3,μ3 l=none/\ν=μ3.set l (some (rec none))/\I k μ3) (λν=>∃c μ3,μ3 l=none/\ν=μ3.set l (some (rec (some c)))/\S c μ3) (Ow (Rc l (rec none)::L)) _ trivial ?_ (λμ' MJ=>Ow.one ?_) ?_).mono ?_
 ·have h1:Ow (Rc l (rec none)::A::L) (μ.set l (some (rec none))):=by
   refine⟨M0.set l (some (rec none)),μ,λx=>?_,?_,Mem.ai _ _ _,hO⟩
   ·by_cases e:x=l
    ·subst e;exact .inr hl
    ·rw[Mem.aw _ _ e];exact .inl rfl
   ·funext x
    by_cases e:x=l
    ·subst e;rw[Mem.ai,Mem.aX (Mem.ai _ _ _)]
    ·rw[Mem.aw _ _ e,Mem.bg (by rw[Mem.aw _ _ e];rfl)]
  refine h1.swap.tail λν hν=>Ow.one hν
 ·have h1:Ow (A'::(Rc l (rec none)::L)) μ':=MJ.tail λν hν=>hν.TD
  obtain⟨h2,h3⟩:=cut h1.swap
  exact⟨_,Mem.ai _ _ _,glue h2,h0 _ h3⟩
 ·rintro k hk _ ⟨μ3,h1,rfl,Sw⟩
  refine(hy items[k] μ3 (λp μ'=>match p with|none=>I (k+1) μ'|some c=>S c μ') h1 (cQ k hk μ3 _ Sw (λμ' h=>h) (λc μ' h=>h))).mono ?_
  rintro v μ2 ⟨p,μ4,rfl,h3,rfl,hR⟩
  cases p with
  |none=>exact .inl ⟨rfl,Ow.one ⟨μ4,h3,rfl,hR⟩⟩
  |some c=>exact .inr ⟨rfl,Ow.one ⟨c,μ4,h3,rfl,hR⟩⟩
 ·rintro v ν (h|h)
  ·obtain⟨ν1,ν2,kZ,e,⟨μ3,h1,h2,h3⟩,_⟩:=h
   obtain⟨h4,h5⟩:=lift h1 h2 kZ e
   exact⟨none,ν.set l none,Mem.ai _ _ _,glue h4,Qy _ (hI _ _ _ h5 h3)⟩
  ·obtain⟨ν1,ν2,kZ,e,⟨c,μ3,h1,h2,h3⟩,_⟩:=h
   obtain⟨h4,h5⟩:=lift h1 h2 kZ e
   exact⟨some c,ν.set l none,Mem.ai _ _ _,glue h4,Fg c _ (hS _ _ _ h5 h3)⟩
section
variable {T κ:Type} (ck:κ->κ->Int) (key:T->κ)
def dh(L:List T):Prop:=L.Pairwise λa b=>ck (key a) (key b)<0
def CG(k:κ)(y:T):Bool:=decide (ck (key y) k<0)
def Il(k:κ)(y:T):Bool:=decide (0<ck (key y) k)
def FR(k:κ)(y:T):Bool:=decide (ck (key y) k=0)
def bI(k:κ)(L:List T):Option T:=L.find? (FR ck key k)
def eu(x:T)(L:List T):List T:=L.filter (CG ck key (key x))++x::L.filter (Il ck key (key x))
def bC(x:T)(L:List T):List T:=if(bI ck key (key x) L).isSome then L else eu ck key x L
end
section
variable {T κ:Type} {ck:κ->κ->Int} {key:T->κ}
theorem kQ.self(hc:kQ ck)(a:κ):ck a a=0:=(hc.zero a a).2 rfl
theorem dh.up{L:List T}(h:dh ck key L):Up ck (L.map key):=by
 unfold Up;rw[List.pairwise_map];exact h
theorem oT{α:Type}{p:α->Bool}{L:List α}{k:Nat}(hk:k<=L.length)(h1:∀(i:Nat) (h:i<L.length),i<k->p L[i]=true)(h2:∀(i:Nat) (h:i<L.length),k<=i->p L[i]=false):L.filter p=L.take k:=by
 have e:=List.take_append_drop k L
 rw[<- e,List.filter_append]
 rw[List.filter_eq_self.2 λx hx=>?_,List.filter_eq_nil_iff.2 λx hx=>?_]
 ·simp[Nat.min_eq_left hk]
 ·obtain⟨i,hi,rfl⟩:=List.mem_iff_getElem.1 hx
  rw[List.getElem_drop]
  simp only[List.length_drop]at hi
  simp[h2 (k+i) (by omega) (by omega)]
 ·obtain⟨i,hi,rfl⟩:=List.mem_iff_getElem.1 hx
  rw[List.getElem_take]
  simp only[List.length_take]at hi
  exact h1 i (by omega) (by omega)
theorem wC{α:Type}{p:α->Bool}{L:List α}{k:Nat}(hk:k<=L.length)(h1:∀(i:Nat) (h:i<L.length),i<k->p L[i]=false)(h2:∀(i:Nat) (h:i<L.length),k<=i->p L[i]=true):L.filter p=L.drop k:=by
 have e:=List.take_append_drop k L
 rw[<- e,List.filter_append]
 rw[List.filter_eq_nil_iff.2 λx hx=>?_,List.filter_eq_self.2 λx hx=>?_]
 ·simp[Nat.min_eq_left hk]
 ·obtain⟨i,hi,rfl⟩:=List.mem_iff_getElem.1 hx
  rw[List.getElem_drop]
  simp only[List.length_drop]at hi
  exact h2 (k+i) (by omega) (by omega)
 ·obtain⟨i,hi,rfl⟩:=List.mem_iff_getElem.1 hx
  rw[List.getElem_take]
  simp only[List.length_take]at hi
  simp[h1 i (by omega) (by omega)]
section
variable {L:List T} {x:κ} {k:Nat}
theorem bx.PJ{there:Bool}(h:bx ck (L.map key) x k there)(i:Nat)(hi:i<L.length)(oO:i<k):ck (key L[i]) x<0:=by
 have:=h.low i (by simpa using hi) oO
 simpa using this
theorem bx.leK{there:Bool}(h:bx ck (L.map key) x k there):k<=L.length:=by simpa using h.le
theorem bx.Kh(h:bx ck (L.map key) x k false)(i:Nat)(hi:i<L.length)(oO:k<=i):0<ck (key L[i]) x:=by
 have:=h.Me rfl i (by simpa using hi) oO
 simpa using this
theorem bx.Zp(h:bx ck (L.map key) x k true):∃hk:k<L.length,key L[k]=x:=by
 obtain⟨h1,h2⟩:=h.Qw rfl
 exact⟨by simpa using h1,by simpa using h2⟩
theorem bx.none(hc:kQ ck)(h:bx ck (L.map key) x k false):bI ck key x L=Option.none:=by
 unfold bI
 rw[List.find?_eq_none]
 intro y hy
 obtain⟨i,hi,rfl⟩:=List.mem_iff_getElem.1 hy
 by_cases oO:i<k
 ·have:=h.PJ i hi oO;simp[FR];omega
 ·have:=h.Kh i hi (by omega);simp[FR];omega
theorem Kz(hc:kQ ck)(hu:dh ck key L)(hk:k<L.length)(e:key L[k]=x):bI ck key x L=some L[k]:=by
 unfold bI
 rw[List.find?_eq_some_iff_getElem]
 refine⟨by simp[FR,e,hc.self],k,hk,rfl,λj hj=>?_⟩
 have h1:=hu.up.lt (i:=j) (j:=k) hj (by simpa using hk)
 simp only[List.getElem_map]at h1
 rw[e]at h1
 simp[FR];omega
theorem bx.some(hc:kQ ck)(h:bx ck (L.map key) x k true)(hu:dh ck key L):∃hk:k<L.length,bI ck key x L=Option.some L[k]:=by
 obtain⟨hk,e⟩:=h.Zp
 exact⟨hk,Kz hc hu hk e⟩
theorem bx.ins(hc:kQ ck){y:T}(h:bx ck (L.map key) (key y) k false):L.take k++y::L.drop k=eu ck key y L:=by
 unfold eu
 rw[oT (k:=k) h.leK (λi hi oO=>?_) (λi hi oO=>?_),wC (k:=k) h.leK (λi hi oO=>?_) (λi hi oO=>?_)]
 ·have:=h.PJ i hi oO;simp[Il];omega
 ·have:=h.Kh i hi oO;simp[Il];omega
 ·have:=h.PJ i hi oO;simp[CG];omega
 ·have:=h.Kh i hi oO;simp[CG];omega
end
theorem cF(hc:kQ ck){x y:T}{L:List T}:y∈eu ck key x L↔y=x\/(y∈L/\key y≠key x):=by
 unfold eu
 simp only[List.mem_append,List.mem_cons,List.mem_filter,CG,Il,decide_eq_true_eq]
 have h0:key y=key x↔ck (key y) (key x)=0:=(hc.zero _ _).symm
 constructor
 ·rintro(⟨h,h1⟩|h|⟨h,h1⟩)
  ·exact .inr ⟨h,λe=>by rw[h0]at e;omega⟩
  ·exact .inl h
  ·exact .inr ⟨h,λe=>by rw[h0]at e;omega⟩
 ·rintro(h|⟨h,h1⟩)
  ·exact .inr (.inl h)
  ·rw[ne_eq,h0]at h1
   by_cases h2:ck (key y) (key x)<0
   ·exact .inl ⟨h,h2⟩
   ·exact .inr (.inr ⟨h,by omega⟩)
theorem dh.filter{L:List T}(h:dh ck key L)(p:T->Bool):dh ck key (L.filter p):=List.Pairwise.filter _ h
theorem dh.ins(hc:kQ ck){L:List T}(h:dh ck key L)(x:T):dh ck key (eu ck key x L):=by
 unfold eu dh
 rw[List.pairwise_append,List.pairwise_cons]
 refine⟨h.filter _,⟨λy hy=>?_,h.filter _⟩,λy hy z hz=>?_⟩
 ·simp only[List.mem_filter,Il,decide_eq_true_eq]at hy
  exact(hc.flip _ _).2 hy.2
 ·simp only[List.mem_filter,CG,decide_eq_true_eq]at hy
  rcases List.mem_cons.1 hz with rfl|hz
  ·exact hy.2
  ·simp only[List.mem_filter,Il,decide_eq_true_eq]at hz
   exact hc.trans _ _ _ hy.2 ((hc.flip _ _).2 hz.2)
theorem dh.put(hc:kQ ck){L:List T}(h:dh ck key L)(x:T):dh ck key (bC ck key x L):=by
 unfold bC;split
 ·exact h
 ·exact h.ins hc x
theorem de(hc:kQ ck){L:List T}{k:κ}:bI ck key k L=none↔∀x∈L,key x≠k:=by
 unfold bI
 rw[List.find?_eq_none]
 simp only[FR,decide_eq_true_eq,hc.zero,ne_eq]
theorem dh.ext(hc:kQ ck):∀{L L':List T},dh ck key L->dh ck key L'->(∀x,x∈L↔x∈L')->L=L'
 |[],[],_,_,_=>rfl
 |[],y::L',_,_,h=>absurd ((h y).2 (by simp)) (by simp)
 |x::L,[],_,_,h=>absurd ((h x).1 (by simp)) (by simp)
 |x::L,y::L',h1,h2,h=>by
  have Ik:=List.pairwise_cons.1 h1
  have GH:=List.pairwise_cons.1 h2
  have exy:x=y:=by
   rcases List.mem_cons.1 ((h x).1 (by simp))with e|hx
   ·exact e
   ·rcases List.mem_cons.1 ((h y).2 (by simp))with e|hy
    ·exact e.symm
    ·have a1:=GH.1 x hx
     have a2:=Ik.1 y hy
     have:=(hc.flip _ _).1 a1
     omega
  subst exy
  congr 1
  refine dh.ext hc Ik.2 GH.2 λz=>?_
  have hz:=h z
  simp only[List.mem_cons]at hz
  constructor
  ·intro hm
   rcases hz.1 (.inr hm)with e|nv
   ·subst e
    have:=Ik.1 z hm
    rw[hc.self]at this;omega
   ·exact nv
  ·intro hm
   rcases hz.2 (.inr hm)with e|nv
   ·subst e
    have:=GH.1 z hm
    rw[hc.self]at this;omega
   ·exact nv
theorem Qb{x:T}{L:List T}:(eu ck key x L).length<=L.length+1:=by
 have h:∀M:List T,(M.filter (CG ck key (key x))).length+(M.filter (Il ck key (key x))).length<=M.length:=by
  intro M
  induction M with
  |nil=>simp
  |cons y M ih=>
   simp only[List.filter_cons]
   by_cases h1:CG ck key (key x) y=true
   ·have h2:Il ck key (key x) y=false:=by
     simp only[CG,decide_eq_true_eq]at h1;simp[Il];omega
    simp only[h1,h2,if_true,List.length_cons];simp;omega
   ·simp only[Bool.not_eq_true]at h1
    simp only[h1,Bool.false_eq_true,if_false]
    split
    ·simp only[List.length_cons];omega
    ·simp only[List.length_cons];omega
 have:=h L
 unfold eu
 simp only[List.length_append,List.length_cons];omega
theorem Ex{x:T}{L:List T}:(bC ck key x L).length<=L.length+1:=by
 unfold bC;split
 ·omega
 ·exact Qb
end
section
variable {S T κ:Type} {ck:κ->κ->Int} {key:T->κ}
theorem Bm(hc:kQ ck){L:List T}{x:T}(h:bI ck key (key x) L=none):(eu ck key x L).Perm (x::L):=by
 have hn:=(de hc).1 h
 have e:L.filter (Il ck key (key x))=L.filter λy=> !CG ck key (key x) y:=List.filter_congr λy hy=>by
  have h0:=hn y hy
  rw[ne_eq,<- hc.zero]at h0
  simp only[Il,CG]
  by_cases h1:ck (key y) (key x)<0
  ·simp[h1];omega
  ·simp[h1];omega
 unfold eu
 rw[e]
 exact List.perm_middle.trans (List.Perm.cons x (List.filter_append_perm _ L))
end
def fB(a b:Int):Int:=if a<b then -1 else if b<a then 1 else 0
def bp(Ts e:TypeId)(sz:Nat)(b:Nat)(rows:Lq):bk:=λμ=>∃F,gv Ts e sz μ b rows F
theorem bp.split{Ts e:TypeId}{sz b:Nat}{rows:Lq}{L:List bk}{μ:Mem}(hO:Ow (bp Ts e sz b rows::L) μ):∃F,gv Ts e sz μ b rows F/\∀{μ':Mem} {nZ:Lq} {F':List Nat},Mv μ μ' F F'->gv Ts e sz μ' b nZ F'->Ow (bp Ts e sz b nZ::L) μ':=by
 obtain⟨μ1,μ2,hs,rfl,⟨F,h⟩,hL⟩:=hO
 refine⟨F,h.same λx hx=>?_,λ{μ' nZ F'} hm h'=>?_⟩
 ·cases hy:μ1 x with
  |none=>exact absurd hy (h.at_.2 x hx)
  |some o=>rw[Mem.aX hy]
 ·exact Ow.mv (A:=λ_=>True) ⟨μ1,μ2,hs,rfl,h.at_.2,hL⟩ hm λν hν=>⟨F',h'.same hν⟩
theorem nY{T:Type}{pv:T->List PV}{sz:Nat}(h:∀x,(pv x).length=sz)(L:List T):∀r∈L.map pv,r.length=sz:=λr hr=>by
 obtain⟨x,_,rfl⟩:=List.mem_map.1 hr;exact h x
theorem AV{T:Type}{pv:T->List PV}(h:∀x,aE (pv x)=true)(L:List T):aE (L.map pv).flatten=true:=by
 unfold aE
 rw[List.all_eq_true]
 intro x hx
 obtain⟨r,hr,hx⟩:=List.mem_flatten.1 hx
 obtain⟨y,_,rfl⟩:=List.mem_map.1 hr
 exact List.all_eq_true.1 (h y) x hx
section
variable {T:Type} {pv:T->List PV}
theorem kJ(L:List T)(j:Nat)(y:T):(L.take j++y::L.drop j).length=L.length+1:=by
 rw[List.length_append,List.length_cons,List.length_take,List.length_drop];omega
theorem EZ(L:List T)(j:Nat)(y:T)(h0:0<j)(hj:j<=L.length):((L.take j++y::L.drop j).map pv).set j (pv (L[j-1]'(by omega)))=(L.take (j-1)++(L[j-1]'(by omega))::L.drop (j-1)).map pv:=by
 have e:L.drop (j-1)=L[j-1]'(by omega)::L.drop j:=by
  rw[List.drop_eq_getElem_cons (by omega)];congr 2;omega
 have e2:L.take j=L.take (j-1)++[L[j-1]'(by omega)]:=by
  have:=List.take_add_one (l:=L) (i:=j-1)
  rw[show j-1+1=j by omega,List.getElem?_eq_getElem (by omega)]at this
  exact this
 have hlen:(L.take j).length=j:=by rw[List.length_take];omega
 rw[List.map_append,List.map_cons,List.set_append_right _ _ (by simp;omega)]
 simp only[List.length_map,hlen,Nat.sub_self,List.set_cons_zero]
 rw[e2,e,List.map_append,List.append_assoc,List.map_append]
 rfl
theorem Kn(L:List T)(j:Nat)(x y:T)(hj:j<=L.length):((L.take j++y::L.drop j).map pv).set j (pv x)=(L.take j++x::L.drop j).map pv:=by
 have hlen:(L.take j).length=j:=by rw[List.length_take];omega
 rw[List.map_append,List.map_cons,List.set_append_right _ _ (by simp;omega)]
 simp only[List.length_map,hlen,Nat.sub_self,List.set_cons_zero]
 rw[List.map_append,List.map_cons]
theorem Qc(L:List T)(j:Nat)(y:T)(h0:0<j)(hj:j<=L.length):((L.take j++y::L.drop j).map pv)[j-1]?=some (pv (L[j-1]'(by omega))):=by
 rw[List.getElem?_map,List.getElem?_append_left (by rw[List.length_take];omega),List.getElem?_take,if_pos (by omega),List.getElem?_eq_getElem (by omega)]
 rfl
end
structure SD where
 P:Program
 TS:TypeId
 TE:TypeId
 W:Nat
 B:Nat
 fc:FuncId
 X:(List PV->Prop)->Prop
 E:List PV->PV
 Z:List PV
section
variable (D:SD) (a0:Option Addr) (u0:Mem) (K:Kq) (c:List PV) (e:PV)
def my(s:Int×Int):Int:=IntKind.wrap .i64 (s.1+(IntKind.wrap .i64 (Int.tdiv (IntKind.wrap .i64 (s.2-s.1)) (2))))
def SD.find:Prop:=
 nP a0 λb o=>
 ∃f l,aN u0 b o 1=some [.list D.W f l]/\
 aj (α:=Int×Int) (λnext s u=>
  ae (decide ((s.1:Int)<s.2))
  (((2):Int)≠0/\
   nP a0 λIW HA=>
   ∃f l,aN u IW HA 1=some [.list D.W f l]/\
   (0:Int)<=my s/\∃(r:List PV),l[Int.toNat (my s)]?=some r/\
   D.X λy=>aA r 0 D.W=some y/\
   (∀v,pv D.P (method (D.P.types.size+Made.depth) D.TE v "Compare")=some (D.fc,v))/\
   ab D.P D.fc [D.E (y.map cu),e] u λv pK=>
   ∃x,v=(pI x)/\
   ae ((x:Int) == (0))
   (K (.aC [pI (my s),pB true]) pK)
   (ae (decide ((x:Int)<(0)))
    (next ((IntKind.wrap .i64 (my s+(1))),s.2) pK)
    (next (s.1,my s) pK)))
  (K (.aC [pI s.1,pB false]) u))
 ((0),((List.length l:Nat):Int)) u0
def SD.own:Prop:=
 nP a0 λb o=>
 ∃s,aN u0 b (o+1) 1=some [pB s]/\
 ae s
 (nP a0 λIW HA=>
  ∃f1 l1,aN u0 IW HA 1=some [.list D.W f1 l1]/\
  nP a0 λVw TN=>
  ∃f l,aN u0 Vw TN 1=some [.list D.W f l]/\
  (0:Int)<=(0)/\(0)<=(IntKind.wrap .i64 (((List.length l1:Nat):Int)+(1)))/\(IntKind.wrap .i64 (((List.length l1:Nat):Int)+(1)))<(4611686018427387904:Int)/\Int.toNat (IntKind.wrap .i64 (((List.length l1:Nat):Int)+(1)))*D.B<=140737488355328/\
  ∀(IY:Nat),u0 IY=none->
  iw D.W D.B D.TE (some ⟨IY,0,none⟩) (Int.toNat (0)) (Int.toNat (IntKind.wrap .i64 (((List.length l1:Nat):Int)+(1)))) (.list D.W f l) (Mem.set u0 IY (some (.cells D.TE (List.flatten (List.replicate (Int.toNat (IntKind.wrap .i64 (((List.length l1:Nat):Int)+(1)))) D.Z))))) λs18 agJ agK u=>
  nP a0 λb_3 YD=>
  stM b_3 YD [pV s18 agJ agK] u λpK=>
  nP a0 λVv TK=>
  stM Vv (TK+1) [pB false] pK λuB=>
  K (.aC []) uB)
 (K (.aC []) u0)
def SD.put(ff fo:FuncId):Prop:=
 ae (Option.isNone a0)
 (K (pB false) u0)
 (ab D.P ff [pA a0,e] u0 λv u=>
  ∃p q,v=(.aC [pI p,pB q])/\
  ae q
  (K (pB false) u)
  (ab D.P fo [pA a0] u λLo pK=>
   Lo=(.aC [])/\
   nP a0 λb o=>
   ∃x23 abZ ab0,aN pK b o 1=some [pV x23 abZ ab0]/\
   iw D.W D.B D.TE x23 abZ ab0 (.list D.W .nr [c]) pK λs26 agH agI uB=>
   nP a0 λIW HA=>
   stM IW HA [pV s26 agH agI] uB λJB=>
   nP a0 λVw TN=>
   ∃x32 Oa SP,aN JB Vw TN 1=some [pV x32 Oa SP]/\
   aj (α:=Int) (λnext s Gy=>
    ae (decide ((s:Int)>p))
    (nP a0 λb_3 YD=>
     ∃x43 abK af6,aN Gy b_3 YD 1=some [pV x43 abK af6]/\
     nP a0 λVv TK=>
     ∃x48 abJ af5,aN Gy Vv TK 1=some [pV x48 abJ af5]/\
     bR x48 λb_5 o_5=>
     (0:Int)<=(IntKind.wrap .i64 (s-(1)))/\(IntKind.wrap .i64 (s-(1)))<((abJ:Nat):Int)/\
     D.X λy=>aN Gy b_5 (o_5+Int.toNat (IntKind.wrap .i64 (s-(1)))*D.W) D.W=some y/\
     bR x43 λb_6 o_6=>
     (0:Int)<=s/\s<((abK:Nat):Int)/\
     stM b_6 (o_6+Int.toNat s*D.W) y Gy λXP=>
     next (IntKind.wrap .i64 (s-(1))) XP)
    (nP a0 λb_7 o_7=>
     ∃x57 abI af1,aN Gy b_7 o_7 1=some [pV x57 abI af1]/\
     bR x57 λb_8 o_8=>
     (0:Int)<=p/\p<((abI:Nat):Int)/\
     stM b_8 (o_8+Int.toNat p*D.W) c Gy λu_6=>
     K (pB true) u_6))
   (IntKind.wrap .i64 (((Oa:Nat):Int)-(1))) JB))
def SD.new(fp:FuncId)(l:Lq):Prop:=
 ca u0 D.TS [.list D.W .nil [],pB false] λb7 u=>
 aj (α:=Int) (λnext s pK=>
  ae (decide ((s:Int)<((List.length l:Nat):Int)))
  ((0:Int)<=s/\∃(r12:List PV),l[Int.toNat s]?=some r12/\
   D.X λy=>aA r12 0 D.W=some y/\
   ab D.P fp [pP b7 0,D.E (y.map cu)] pK λv uB=>
   ∃x16,v=(pB x16)/\
   next (IntKind.wrap .i64 (s+(1))) uB)
  (K (pP b7 0) pK))
 (0) u
end
structure Jh(D:SD){El κ:Type}(pr:El->List PV)(arg:El->PV)(key:El->κ)(ck:κ->κ->Int):Prop where
 hX:∀(x:El) (Q:List PV->Prop),Q (pr x)->D.X Q
 len:∀x,(pr x).length=D.W
 WS:∀x,aE (pr x)=true
 wk:∀x,(pr x).map cu=pr x
 E:∀x,D.E (pr x)=arg x
 hc:kQ ck
 cmp:∀a b,Pure D.P D.fc [arg a,arg b] (pI (ck (key a) (key b)))
 ag2:∀v,pv D.P (method (D.P.types.size+Made.depth) D.TE v "Compare")=some (D.fc,v)
 zl:D.Z.length=D.W
 W0:0<D.W
 B0:D.B<=1000
namespace Jh
variable {D:SD} {El κ:Type} {pr:El->List PV} {arg:El->PV} {key:El->κ} {ck:κ->κ->Int} (S:Jh D pr arg key ck)
include S
theorem each(l:List El):∀r∈l.map pr,r.length=D.W:=nY S.len l
theorem cell(l:List El):aE (l.map pr).flatten=true:=AV S.WS l
theorem row(x:El):aA (pr x) 0 D.W=some (pr x):=by
 have:=S.W0
 unfold aA
 rw[if_pos ⟨by rw[S.len];omega,S.W0⟩,List.drop_zero,<- S.len x,List.take_length]
theorem E'(x:El):D.E ((pr x).map cu)=arg x:=by rw[S.wk,S.E]
variable {nf:FuncId} (hf:∀{x:El} {a0:Option Addr} {u0:Mem} {K:Kq},D.find a0 u0 K (arg x)->ab D.P nf [pA a0,arg x] u0 K)
section
include hf
theorem IK(b:Nat)(s:Bool)(l:List El)(hu:dh ck key l)(hl:l.length<=4000000000000000000)(x:El):ab D.P nf [pP b 0,arg x] (M0.set b (some (.ro D.TS [.list D.W .sh (l.map pr),pB s]))) λp _=>∃(k:Nat) (t:Bool),p=.aC [pI k,pB t]/\bx ck (l.map key) (key x) k t:=by
 have hc:=S.hc
 refine hf ?_
 refine⟨_,_,xW (Mem.ai _ _ _) (by simp),?_⟩
 have eF:∀u,u=M0.set b (some (.ro D.TS [.list D.W .sh (l.map pr),pB s]))->aN u b 0 1=some [.list D.W .sh (l.map pr)]:=λu h=>by rw[h];exact xW (Mem.ai _ _ _) (by simp)
 rw[List.length_map]
 have huu:=hu.up
 have xu:(l.map key).length=l.length:=by simp
 refine aj.bin (n:=l.length) (by omega) (λi=>if h:i<l.length then ck (key l[i]) (key x)else 1) (λu=>u=M0.set b (some (.ro D.TS [.list D.W .sh (l.map pr),pB s]))) rfl ?_ ?_ ?_ ?_
 ·intro i j Ah hj h
  rw[dif_pos hj]at h
  rw[dif_pos (Nat.lt_trans Ah hj)]
  have:=huu.We hc (x:=key x) Ah (by simpa using hj) (by simpa using h)
  simpa using this
 ·intro i j Ah hj h
  rw[dif_pos (Nat.lt_trans Ah hj)]at h
  rw[dif_pos hj]
  have:=huu.Wc hc (x:=key x) Ah (by simpa using hj) (by simpa using h)
  simpa using this
 ·intro lo hi nq u next bB Zq Qp Mz hA h1 h2 h3
  subst hA
  rw[dif_pos Mz]at h1 h2 h3
  refine ae.t (by simpa using bB) ⟨by decide,?_⟩
  refine⟨_,_,eF _ rfl,?_⟩
  dsimp only[my]
  rw[YM bB (by omega),<- Qp]
  refine⟨by omega,_,aI Mz,S.hX _ _ ⟨S.row _,S.ag2,?_⟩⟩
  rw[S.E']
  refine(S.cmp l[nq] x).call ⟨_,rfl,ae.mk (λh=>?_) (λh=>ae.mk (λh'=>?_) (λh'=>?_))⟩
  ·have h0:ck (key l[nq]) (key x)=0:=by simpa using h
   refine⟨nq,true,rfl,by rw[xu];omega,λi hi oO=>?_,λ_=>⟨by rw[xu];exact Mz,by rw[List.getElem_map];exact(hc.zero _ _).1 h0⟩,λh=>by cases h⟩
   have:=h3 h0 i oO
   rw[dif_pos (by rw[xu]at hi;exact hi)]at this
   rw[List.getElem_map];exact this
  ·have h0:ck (key l[nq]) (key x)<0:=by simpa using h'
   have:=h1 h0 _ rfl
   rw[aB (by omega) (by omega)]
   exact this
  ·have h0:0<ck (key l[nq]) (key x):=by
    have a1:ck (key l[nq]) (key x)≠0:=by simpa using h
    have a2:¬ck (key l[nq]) (key x)<0:=by simpa using h'
    omega
   exact h2 h0 _ rfl
 ·intro k u next hA hk h1 h2
  refine ae.f (by simp) ?_
  refine⟨k,false,rfl,by rw[xu];exact hk,λi hi oO=>?_,λh=>(by cases h),λ_ i hi oO=>?_⟩
  ·have:=h1 i oO;rw[xu]at hi;rw[dif_pos hi]at this;rw[List.getElem_map];exact this
  ·rw[xu]at hi;have:=h2 i oO hi;rw[dif_pos hi]at this;rw[List.getElem_map];exact this
theorem qh{μ:Mem}{b:Nat}{l:List El}{F:List Nat}(h:gv D.TS D.TE D.W μ b (l.map pr) F)(hu:dh ck key l)(hl:l.length<=4000000000000000000)(x:El){K:Kq}(hk:∀(k:Nat) (t:Bool),bx ck (l.map key) (key x) k t->K (.aC [pI k,pB t]) μ):ab D.P nf [pP b 0,arg x] μ K:=
 gv.query h (λs=>IK S hf b s l hu hl x) (λp ⟨k,t,e,_⟩=>by rw[e];rfl) λp ⟨k,t,e,hf⟩=>by rw[e];exact hk k t hf
end
section
variable {no:FuncId} (ho:∀{a0:Option Addr} {u0:Mem} {K:Kq},D.own a0 u0 K->ab D.P no [pA a0] u0 K)
include ho
theorem IF{μ:Mem}{b:Nat}{l:List El}{F:List Nat}(h:gv D.TS D.TE D.W μ b (l.map pr) F)(hl:l.length<=1000000000){K:Kq}(hk:∀μ' F',ri D.TS D.TE D.W μ' b (l.map pr) F'->Mv μ μ' F F'->K (.aC []) μ'):ab D.P no [pP b 0] μ K:=by
 obtain⟨μ0,hG,ND,Qq⟩:=h.raw
 refine ab.pre hG (ho ?_)
 have hB:=S.B0
 have hmul:∀m,m<=1000000001->m*D.B<=140737488355328:=λm hm=>Nat.le_trans (Nat.mul_le_mul hm hB) (by decide)
 rcases Qq with⟨rfl,hm⟩|hr
 ·refine⟨true,bM hm (by simp),ae.t rfl ?_⟩
  refine⟨_,_,bM hm (by simp),?_⟩
  refine⟨_,_,bM hm (by simp),?_⟩
  rw[List.length_map,aB (by omega) (by omega)]
  have hn:Int.toNat ((l.length:Int)+1)=l.length+1:=by omega
  rw[hn]
  refine⟨by omega,by omega,by omega,hmul _ (by omega),λIY Ii=>?_⟩
  have bm:IY≠b:=by rintro rfl;rw[hm]at Ii;cases Ii
  have Fc:=S.zl
  refine Gi (Mem.ai _ _ _) (by simp[Fc]) (by simp) (S.each l) (S.cell l) (by rw[List.length_map];exact hmul _ (by omega)) (by simp;omega) ?_
  rw[Mem.set_set]
  refine⟨_,_,by rw[Mem.aw _ _ (Ne.symm bm)];exact hm,by simp,?_⟩
  refine⟨_,_,Mem.ai _ _ _,by simp[ei],?_⟩
  rw[Mem.set_set]
  refine hk _ [b,IY] (.inr ⟨IY,l.length+1,_,rfl,bm,by first|(rw[Mem.ai];rfl)|rw[Mem.ai],by rw[Mem.aw _ _ bm,Mem.ai],?_,by simp⟩) (ND.trans ?_)
  ·simp only[List.length_drop,List.length_flatten,List.map_replicate,List.sum_replicate_nat,Fc,List.length_map]
   have:l.length*D.W<=(l.length+1)*D.W:=Nat.mul_le_mul_right _ (by omega)
   omega
  ·exact((Mv.set (F:=[b]) (.inr Ii)).trans (Mv.set (.inl (by simp)))).sub (by simp)
 ·obtain⟨a,c,hm,_⟩:=hr.app (S.each l)
  exact⟨false,bM hm (by simp),ae.f rfl (hk μ0 F hr ND)⟩
include hf
theorem f_{n:FuncId}(hn:∀{x:El} {a0:Option Addr} {u0:Mem} {K:Kq},D.put a0 u0 K (pr x) (arg x) nf no->ab D.P n [pA a0,arg x] u0 K) ⦃L:List bk⦄ ⦃μ:Mem⦄ ⦃b:Nat⦄ ⦃l:List El⦄ (hO:Ow (bp D.TS D.TE D.W b (l.map pr)::L) μ) (hu:dh ck key l) (hl:l.length<=999999999) (x:El) ⦃K:Kq⦄ (hk:∀μ',Ow (bp D.TS D.TE D.W b ((bC ck key x l).map pr)::L) μ'->K (pB (bI ck key (key x) l).isNone) μ'):ab D.P n [pP b 0,arg x] μ K:=by
 have hc:=S.hc
 have hB:=S.B0
 have each:=S.each
 obtain⟨F,h,Fx⟩:=bp.split hO
 refine hn ?_
 refine ae.f rfl (S.qh hf h hu (by omega) x λk t hf=>⟨_,_,rfl,ae.mk (λht=>?_) (λht=>?_)⟩)
 ·subst ht
  obtain⟨_,e⟩:=hf.some hc hu
  have:=hk μ (by rw[bC,e];exact hO)
  rw[e]at this;exact this
 ·subst ht
  have en:=hf.none hc
  have e1:bC ck key x l=l.take k++x::l.drop k:=by rw[bC,en,hf.ins hc];rfl
  rw[e1,en]at hk
  refine S.IF ho h (by omega) λμ1 F1 hr qv=>⟨rfl,?_⟩
  obtain⟨a,c,hb,jQ⟩:=hr.app (each l)
  refine⟨_,_,_,bM hb (by simp),?_⟩
  simp only[List.length_map]at jQ
  rw[List.length_map]
  refine jQ (pr x) _ _ (S.len x) (S.WS x) (Nat.le_trans (Nat.mul_le_mul (show l.length+1<=1000000000 by omega) hB) (by decide)) (by omega) λb' c' rest μ2 bm e2 jO kK jN lS=>?_
  refine⟨_,_,e2.trans hb,by simp,?_⟩
  refine⟨_,_,_,bM (Mem.ai _ _ _) (by simp[ei]),?_⟩
  have NC:IntKind.wrap .i64 (((l.length+1:Nat):Int)-1)=(l.length:Int):=by rw[aB (by omega) (by omega)];omega
  rw[NC]
  have hle:=hf.leK
  have room:∀(j:Nat) (y:El) (i:Nat) (r:List PV),i<=l.length->r.length=D.W->0+i*D.W+r.length<=(((l.take j++y::l.drop j).map pr).flatten++rest).length:=λj y i r hi Ag=>by
   have iB:=dw (each (l.take j++y::l.drop j))
   rw[List.length_map,kJ]at iB
   rw[List.length_append,iB,Ag,Nat.zero_add,<- Nat.succ_mul]
   exact Nat.le_trans (Nat.mul_le_mul_right _ (by omega)) (Nat.le_add_right _ _)
  refine aj.down hle (by omega) (λj u=>∃y,u b=some (.cells D.TS [.raw (.slice (some ⟨b',0,none⟩) (l.length+1) c'),pB false])/\u b'=some (.cells D.TE (((l.take j++y::l.drop j).map pr).flatten++rest))/\Mv μ2 u [b,b'] [b,b']) ⟨x,?_,?_,?_⟩ ?_ ?_
  ·rw[Mem.ai];rfl
  ·rw[Mem.aw _ _ bm,jO,List.take_length,List.drop_length]
   simp
  ·exact(Mv.set (.inl (by simp))).sub (by simp)
  ·rintro j u next Zm Zo ⟨y,i1,i2,i3⟩ ar
   refine ae.t (by simpa using Zm) ?_
   refine⟨_,_,_,bM i1 (by simp),?_⟩
   refine⟨_,_,_,bM i1 (by simp),?_⟩
   have Fp:IntKind.wrap .i64 ((j:Int)-1)=((j-1:Nat):Int):=by rw[aB (by omega) (by omega)];omega
   have eF:aN u b' (0+Int.toNat (IntKind.wrap .i64 ((j:Int)-1))*D.W) D.W=some (pr (l[j-1]'(by omega))):=by
    rw[Fp,Int.toNat_natCast,Nat.zero_add]
    exact Ep (each _) i2 (Qc l j y (by omega) Zo)
   refine⟨by rw[Fp];omega,by rw[Fp];omega,S.hX _ _ ⟨eF,?_⟩⟩
   refine⟨by omega,by omega,_,_,i2,?_,ar _ ⟨l[j-1]'(by omega),?_,?_,?_⟩⟩
   ·rw[Int.toNat_natCast];exact room j y j _ Zo (S.len _)
   ·rw[Mem.aw _ _ (Ne.symm bm)];exact i1
   ·rw[Mem.ai,Int.toNat_natCast,Nat.zero_add,AG (r:=pr (l[j-1]'(by omega))) (each _) (by rw[List.length_map,kJ];omega) (S.len _),EZ l j y (by omega) Zo]
   ·exact(i3.trans (Mv.set (.inl (by simp)))).sub (by simp)
  ·rintro u next ⟨y,i1,i2,i3⟩
   refine ae.f (by simp) ?_
   refine⟨_,_,_,bM i1 (by simp),?_⟩
   refine⟨by omega,by omega,_,_,i2,?_,?_⟩
   ·rw[Int.toNat_natCast];exact room k y k _ hle (S.len _)
   ·rw[Int.toNat_natCast,Nat.zero_add,AG (r:=pr x) (each _) (by rw[List.length_map,kJ];omega) (S.len _),Kn l k x y hle]
    refine hk (u.set b' (some (.cells D.TE (((l.take k++x::l.drop k).map pr).flatten++rest)))) (Fx (F':=[b,b']) (qv.trans (lS.trans ((i3.trans (Mv.set (.inl (by simp)))).sub (by simp)))) ⟨each _,S.cell _,.inr (.inr (.inr ⟨b',c',rest,rfl,bm,?_,Mem.ai _ _ _,?_,?_⟩))⟩)
    ·rw[Mem.aw _ _ (Ne.symm bm),i1,List.length_map,kJ]
    ·rw[List.length_map,kJ];exact kK
    ·rw[List.length_map,kJ];exact jN
end
theorem aeZ ⦃L:List bk⦄ ⦃μ:Mem⦄ ⦃b:Nat⦄ (hO:Ow L μ) (hb:μ b=none):Ow (bp D.TS D.TE D.W b (([]:List El).map pr)::L) (μ.set b (some (.cells D.TS [.list D.W .nil [],pB false]))):=
 (hO.new D.TS [.list D.W .nil [],pB false] hb).imp λν hν=>⟨[b],S.each [],S.cell [],.inr (.inl ⟨rfl,rfl,hν⟩)⟩
theorem gX{np n:FuncId}(hp:∀ ⦃L:List bk⦄ ⦃μ:Mem⦄ ⦃b:Nat⦄ ⦃l:List El⦄,Ow (bp D.TS D.TE D.W b (l.map pr)::L) μ->dh ck key l->l.length<=999999999->∀(x:El) ⦃K:Kq⦄,(∀μ',Ow (bp D.TS D.TE D.W b ((bC ck key x l).map pr)::L) μ'->K (pB (bI ck key (key x) l).isNone) μ')->ab D.P np [pP b 0,arg x] μ K)
  (hn:∀{fl:Fl} {l:Lq} {u0:Mem} {K:Kq},D.new u0 K np l->ab D.P n [.list D.W fl l] u0 K) ⦃L:List bk⦄ ⦃μ:Mem⦄ (hO:Ow L μ) (fl:Fl) (xs:List El) (hx:xs.length<=1000000) ⦃K:Kq⦄ (hk:∀μ' b,Ow (bp D.TS D.TE D.W b ((xs.foldl (λl x=>bC ck key x l) []).map pr)::L) μ'->K (pP b 0) μ'):ab D.P n [.list D.W fl (xs.map pr)] μ K:=by
 have hc:=S.hc
 refine hn λb hb=>?_
 have h0:=S.aeZ hO hb
 have Ff:∀(ys:List El),dh ck key (ys.foldl (λl x=>bC ck key x l) [])/\(ys.foldl (λl x=>bC ck key x l) []).length<=ys.length:=λys=>by
  have Ae:∀(ys acc:List El),dh ck key acc->dh ck key (ys.foldl (λl x=>bC ck key x l) acc)/\(ys.foldl (λl x=>bC ck key x l) acc).length<=acc.length+ys.length:=by
   intro ys
   induction ys with
   |nil=>intro acc h;exact⟨h,by simp⟩
   |cons y ys ih=>
    intro acc h
    obtain⟨a1,a2⟩:=ih (bC ck key y acc) (h.put hc y)
    refine⟨a1,?_⟩
    have:=Ex (ck:=ck) (key:=key) (x:=y) (L:=acc)
    simp only[List.foldl_cons,List.length_cons]at a2 |-;omega
  have:=Ae ys [] List.Pairwise.nil
  simpa using this
 refine aj.each (n:=xs.length) (by omega) (λi u=>Ow (bp D.TS D.TE D.W b (((xs.take i).foldl (λl x=>bC ck key x l) []).map pr)::L) u) h0 ?_ ?_
 ·intro i u next hi hI ar
  obtain⟨a1,a2⟩:=Ff (xs.take i)
  refine ae.t (by simpa using hi) ⟨by omega,_,aI hi,S.hX _ _ ⟨S.row _,?_⟩⟩
  rw[S.E']
  refine hp hI a1 (by simp at a2;omega) xs[i] λu' dC=>⟨_,rfl,ar _ ?_⟩
  rw[List.take_add_one,List.getElem?_eq_getElem hi,List.foldl_append]
  exact dC
 ·intro u next hI
  refine ae.f (by simp) (hk _ b ?_)
  rw[List.take_length]at hI;exact hI
end Jh
end Go.az
namespace Go.az
open Go.RowKit
structure MD where
 S:SD
 TM:TypeId
 TY:TypeId
 WK:Nat
 WV:Nat
 at_:FuncId
 XK:(List PV->Prop)->Prop
 EK:List PV->PV
 XV:(List PV->Prop)->Prop
 EV:List PV->PV
 ZV:List PV
structure zG(M:MD){KY VL κ:Type}(pr:KY×VL->List PV)(arg:KY×VL->PV)(pk:KY->List PV)(eL:KY->PV)(pl:VL->List PV)(sd:VL->PV)(z:VL)(key:KY×VL->κ)(ck:κ->κ->Int):Prop where
 S:Jh M.S pr arg key ck
 hp:∀k v,pr (k,v)=pk k++pl v
 ha:∀x,arg x=.agg (pr x)
 lk:∀k,(pk k).length=M.WK
 lv:∀v,(pl v).length=M.WV
 hK:∀k Q,Q (pk k)->M.XK Q
 EK:∀k,M.EK (pk k)=eL k
 hV:∀v Q,Q (pl v)->M.XV Q
 EV:∀v,M.EV (pl v)=sd v
 EVw:∀v,M.EV ((pl v).map cu)=sd v
 hz:∀Q,Q M.S.Z->M.S.X Q
 hzV:∀Q,Q M.ZV->M.XV Q
 zV:M.S.Z.drop M.WK=M.ZV
 zl:M.ZV.length=M.WV
 WV0:0<M.WV
 at_:∀k,Pure M.S.P M.at_ [eL k] (arg (k,z))
 inj:∀a v k w,key (a,v)=key (k,w)->a=k
 kv:∀a v w,key (a,v)=key (a,w)
namespace zG
variable {M:MD} {KY VL κ:Type} {pr:KY×VL->List PV} {arg:KY×VL->PV} {pk:KY->List PV} {eL:KY->PV} {pl:VL->List PV} {sd:VL->PV} {z:VL} {key:KY×VL->κ} {ck:κ->κ->Int} (O:zG M pr arg pk eL pl sd z key ck)
include O
theorem W:M.S.W=M.WK+M.WV:=by rw[<- O.S.zl,<- List.take_append_drop M.WK M.S.Z,O.zV,List.length_append,O.zl,List.length_take,Nat.min_eq_left];(have h1:=O.zl;rw[<- O.zV,List.length_drop]at h1;have:=O.WV0;omega)
end zG
end Go.az
namespace Go.az
open Go.RowKit
theorem u_{A B T:Type}{c1:A->A->Int}{c2:B->B->Int}(h1:kQ c1)(h2:kQ c2)(f:T->A)(g:T->B)(inj:∀a b,f a=f b->g a=g b->a=b):kQ λa b:T=>if c1 (f a) (f b)=0 then c2 (g a) (g b)else c1 (f a) (f b):=by
 have s1:∀{a b:A},c1 a b=0->c1 b a=0:=λ{a b} h=>(h1.zero b a).2 ((h1.zero a b).1 h).symm
 refine⟨λa b=>?_,λa b=>?_,λa b d h k=>?_⟩
 ·constructor
  ·intro h
   split at h
   ·rename_i e;exact inj a b ((h1.zero _ _).1 e) ((h2.zero _ _).1 h)
   ·rename_i e;exact absurd h e
  ·rintro rfl
   rw[if_pos ((h1.zero _ _).2 rfl)];exact(h2.zero _ _).2 rfl
 ·by_cases e:c1 (f a) (f b)=0
  ·rw[if_pos e,if_pos (s1 e)];exact h2.flip _ _
  ·rw[if_neg e,if_neg λh=>e (s1 h)];exact h1.flip _ _
 ·by_cases e:c1 (f a) (f b)=0
  ·rw[if_pos e]at h
   have e':=(h1.zero _ _).1 e
   rw[<- e']at k
   by_cases e2:c1 (f a) (f d)=0
   ·rw[if_pos e2]at k |-;exact h2.trans _ _ _ h k
   ·rw[if_neg e2]at k |-;exact k
  ·rw[if_neg e]at h
   by_cases e2:c1 (f b) (f d)=0
   ·rw[<- (h1.zero _ _).1 e2,if_neg e];exact h
   ·rw[if_neg e2]at k
    have:=h1.trans _ _ _ h k
    rw[if_neg (by omega)];exact this
def aJ(a b:Sym):Int:=if fB a.k b.k=0 then(if bN a.t b.t=0 then fB a.n b.n else bN a.t b.t)else fB a.k b.k
theorem aj.WN{α β γ:Type}{body:(α×β×Int->γ->Prop)->α×β×Int->γ->Prop}{x:α}{y:β}{u:γ}{n:Nat}(hn:n<9223372036854775808)(I:Nat->α->β->γ->Prop)(h0:I 0 x y u)
  (gp:∀(k:Nat) (x:α) (y:β) (u:γ) (next:α×β×Int->γ->Prop),k<n->I k x y u->(∀x' y' u',I (k+1) x' y' u'->next (x',y',IntKind.wrap .i64 ((k:Int)+1)) u')->body next (x,y,(k:Int)) u) (dH:∀(x:α) (y:β) (u:γ) (next:α×β×Int->γ->Prop),I n x y u->body next (x,y,(n:Int)) u):aj body (x,y,0) u:=by
 refine⟨λm s u=>∃k:Nat,s.2.2=(k:Int)/\k<=n/\I k s.1 s.2.1 u/\m=n-k,⟨n-0,0,rfl,Nat.zero_le _,h0,rfl⟩,?_⟩
 rintro _ ⟨x,y,z⟩ u ⟨k,hz,hk,hI,rfl⟩
 have nE:z=(k:Int):=hz
 subst nE
 by_cases bB:k<n
 ·refine gp k x y u _ bB hI λx' y' u' h'=>⟨n-(k+1),by omega,k+1,?_,by omega,h',rfl⟩
  show IntKind.wrap .i64 ((k:Int)+1)=((k+1:Nat):Int)
  rw[aB (by omega) (by omega)];rfl
 ·have:k=n:=by omega
  subst this
  exact dH x y u _ hI
end Go.az
namespace Go.Proofs.YtbkejjmjopgpoaaGreat
open Go.Proofs.Tryz Go.az Go.RowKit
theorem KX(a b:Int):Pure prog 490 [pI a,pI b] (pI (fB a b)):=by
 refine ax.of (uw.c ?_)
 have nan:∀x:Int,Pure prog 492 [pI x] (pB false):=λx=>ax.of (wY.c (by show wk (pB (x != x))=pB false;rw[bne_self_eq_false];rfl))
 refine(nan a).call ⟨_,rfl,(nan b).call ⟨_,rfl,ae.f rfl (ae.f rfl (ae.mk (λh=>?_) (λh=>ae.mk (λh1=>?_) (λh1=>?_))))⟩⟩<;>simp only[decide_eq_true_eq,decide_eq_false_iff_not]at* <;>simp only[fB,wk,cu]
 ·rw[if_pos h]
 ·rw[if_neg h,if_pos h1]
 ·rw[if_neg h,if_neg h1]
theorem Vi(a b:ByteArray):Pure prog 491 [pS a,pS b] (pI (bN a b)):=by
 refine ax.of (pE.c ?_)
 have nan:∀x:ByteArray,Pure prog 493 [pS x] (pB false):=λx=>ax.of (sB.c (by show wk (pB (!aG x x))=pB false;rw[rq];rfl))
 refine(nan a).call ⟨_,rfl,(nan b).call ⟨_,rfl,ae.f rfl (ae.f rfl (ae.mk (λh=>?_) (λh=>ae.mk (λh1=>?_) (λh1=>?_))))⟩⟩<;>simp only[bN,wk,cu]
 ·rw[h];rfl
 ·rw[h1,h];rfl
 ·rw[h1,h];rfl
theorem iE(a b:Sym):Pure prog 489 [.agg a.pv,.agg b.pv] (pI (aJ a b)):=by
 refine ax.of (uz.c ?_)
 refine(KX _ _).call ⟨_,rfl,ae.mk (λh=>?_) (λh=>(Vi _ _).call ⟨_,rfl,ae.mk (λh1=>?_) (λh1=>(KX _ _).call ⟨_,rfl,?_⟩)⟩)⟩<;>simp only[aJ,wk,cu]
 ·rw[if_neg (by simpa using h)]
 ·rw[if_pos (by simpa using h),if_neg (by simpa using h1)]
 ·rw[if_pos (by simpa using h),if_pos (by simpa using h1)]
namespace KS
@[reducible] noncomputable def D:SD:=⟨prog,135,58,3,32,489,λQ=>∃xa xb xc,Q [pI xa,pS xb,pI xc],.agg,[pI (0),pS ⟨#[]⟩,pI (0)]⟩
end KS
namespace KE
end KE
namespace KA
end KA
end Go.Proofs.YtbkejjmjopgpoaaGreat
namespace Go.az
open Go.RowKit
def TC:List Nat->List bk->List bk
 |[],L=>L
 |i::is,L=>match L[i]? with|some A=>A::TC is (L.eraseIdx i)|none=>TC is L
theorem Ow.ord:∀(is:List Nat) {L:List bk} {μ:Mem},Ow L μ->Ow (TC is L) μ
 |[],_,_,h=>h
 |i::is,L,μ,h=>by
  unfold TC
  split
  ·rename_i A hA
   exact(Ow.at i hA h).tail λ_ h'=>Ow.ord is h'
  ·exact Ow.ord is h
section
variable {κ T:Type} {ck:κ->κ->Int} {key:T->κ} (hc:kQ ck)
def cr(ck:κ->κ->Int)(key:T->κ)(a l:List T):List T:=l.foldl (λa x=>bC ck key x a) a
theorem eS(a l:List T)(x:T):cr ck key a (l++[x])=bC ck key x (cr ck key a l):=by unfold cr;rw[List.foldl_append];rfl
include hc
theorem eR{l:List T}{k:κ}:(bI ck key k l).isSome=true↔∃x∈l,key x=k:=by
 cases hg:bI ck key k l with
 |none=>
  have:=(de hc).1 hg
  simp only[Option.isSome_none,Bool.false_eq_true,false_iff]
  rintro⟨x,hx,h⟩;exact this x hx h
 |some y=>
  have h1:=List.mem_of_find?_eq_some hg
  have h2:=List.find?_some hg
  simp only[Option.isSome_some,true_iff]
  exact⟨y,h1,(hc.zero _ _).1 (by simpa[FR]using h2)⟩
theorem LU{l:List T}{x:T}{k:κ}:(∃y∈bC ck key x l,key y=k)↔(∃y∈l,key y=k)\/key x=k:=by
 unfold bC
 split
 ·rename_i h
  constructor
  ·exact .inl
  ·rintro(h2|rfl)
   ·exact h2
   ·exact(eR hc).1 h
 ·constructor
  ·rintro⟨y,hy,h2⟩
   rcases(cF hc).1 hy with rfl|⟨hy,_⟩
   ·exact .inr h2
   ·exact .inl ⟨y,hy,h2⟩
  ·rintro(⟨y,hy,h2⟩|h2)
   ·by_cases e:key y=key x
    ·exact⟨x,(cF hc).2 (.inl rfl),e.symm.trans h2⟩
    ·exact⟨y,(cF hc).2 (.inr ⟨hy,e⟩),h2⟩
   ·exact⟨x,(cF hc).2 (.inl rfl),h2⟩
theorem dV:∀(l:List T) {a:List T},dh ck key a->dh ck key (cr ck key a l)
 |[],a,h=>h
 |x::l,a,h=>dV l (h.put hc x)
theorem fY:∀(l:List T) {a:List T} {k:κ},(∃y∈cr ck key a l,key y=k)↔(∃y∈a,key y=k)\/∃y∈l,key y=k
 |[],a,k=>by simp[cr]
 |x::l,a,k=>by
  have:=fY l (a:=bC ck key x a) (k:=k)
  show(∃y∈cr ck key (bC ck key x a) l,key y=k)↔_
  rw[this,LU hc]
  simp only[List.mem_cons,exists_eq_or_imp]
  constructor
  ·rintro((h|h)|h)
   ·exact .inl h
   ·exact .inr (.inl h)
   ·exact .inr (.inr h)
  ·rintro(h|h|h)
   ·exact .inl (.inl h)
   ·exact .inl (.inr h)
   ·exact .inr h
theorem dp:∀(l:List T) {a:List T},(cr ck key a l).length<=a.length+l.length/\((cr ck key a l).length=a.length+l.length↔l.Pairwise (λx y=>key x≠key y)/\∀x∈l,∀y∈a,key y≠key x)
 |[],a=>by simp[cr]
 |x::l,a=>by
  obtain⟨h1,h2⟩:=dp l (a:=bC ck key x a)
  show(cr ck key (bC ck key x a) l).length<=_/\((cr ck key (bC ck key x a) l).length=_↔_)
  cases hg:bI ck key (key x) a with
  |some z=>
   have e:bC ck key x a=a:=by unfold bC;rw[hg];rfl
   rw[e]at h1 h2 |-
   obtain⟨w,hw,hk⟩:=(eR hc).1 (show(bI ck key (key x) a).isSome=true by rw[hg];rfl)
   simp only[List.length_cons]
   refine⟨by omega,?_⟩
   constructor
   ·intro h;omega
   ·intro h;exact absurd hk (h.2 x (by simp) w hw)
  |none=>
   have e:bC ck key x a=eu ck key x a:=by unfold bC;rw[hg];rfl
   have hp:=Bm hc hg
   rw[e]at h1 h2 |-
   have hl:=hp.length_eq
   simp only[List.length_cons]at hl |-
   rw[hl]at h1 h2
   refine⟨by omega,?_⟩
   rw[show a.length+(l.length+1)=a.length+1+l.length from by omega,h2,List.pairwise_cons]
   constructor
   ·rintro⟨q1,q2⟩
    have q3:∀z∈l,∀y,(y=x\/y∈a)->key y≠key z:=λz hz y hy=>q2 z hz y (hp.mem_iff.2 (by simpa using hy))
    refine⟨⟨λz hz=>q3 z hz x (.inl rfl),q1⟩,λz hz y hy=>?_⟩
    rcases List.mem_cons.1 hz with rfl|hz
    ·exact(de hc).1 hg y hy
    ·exact q3 z hz y (.inr hy)
   ·rintro⟨⟨q1,q2⟩,q3⟩
    refine⟨q2,λz hz y hy=>?_⟩
    rcases List.mem_cons.1 (hp.mem_iff.1 hy)with rfl|hy
    ·exact q1 z hz
    ·exact q3 z (by simp[hz]) y hy
end
theorem Ow.Sk{L:List bk}{μ:Mem}(h:Ow L μ):Ow ((λ_=>True)::L) μ:=⟨M0,μ,Mem.rG μ,(Mem.BM μ).symm,trivial,h⟩
end Go.az
namespace Go.Proofs.YtbkejjmjopgpoaaGreat
open Go.Proofs.Tryz Go.az Go.RowKit
open Classical
theorem Cd(es:List av)(hl:es.length<=1000000):Jf prog (.fn (.func 84) [] [.bl [.list 12 .sh (es.map av.pv)] 0]) (es.map λe=>[.agg e.pv]):=by
 refine Jf.mk λfy ya yb I S μ hy h0 cQ=>?_
 show ab _ _ [.fn fy ya yb,.bl [.list 12 .sh (es.map av.pv)] 0] _ _
 have hlm:(es.map λe=>[PV.agg e.pv]).length=es.length:=by simp
 refine zJ.c ⟨_,_,rfl,?_⟩
 rw[List.length_map]
 refine aj.each (n:=es.length) (by omega) (λk u=>I k u) h0 ?_ ?_
 ·rintro k u next bP h1 ar
  refine ae.t (by simpa using bP) ⟨by omega,_,aI bP,_,_,_,_,_,_,_,_,_,_,_,_,rfl,?_⟩
  have hs:=cQ k (by rw[hlm];exact bP) u h1
  rw[List.getElem_map]at hs
  refine hs.mono λw u2 h2=>?_
  rcases h2 with⟨rfl,h2⟩|⟨rfl,h2⟩
  ·exact⟨_,rfl,ae.f rfl (ar _ h2)⟩
  ·exact⟨_,rfl,ae.t rfl (.inr h2)⟩
 ·rintro u next h1
  exact ae.f (by simp) (.inl (by rw[hlm];exact h1))
theorem RD(f:Fl)(es:List av):Pure prog 35 [.list 12 f (es.map av.pv)] (.fn (.func 84) [] [.bl [.list 12 .sh (es.map av.pv)] 0]):=ax.of (DD.c rfl)
theorem nt{b:Bool}(h:(!b)=false):b=true:=by simpa using h
theorem aar(f:Fl)(l:List av)(n:Nat)(hn6:n<=1000000):ax prog 51 [.list 12 f (l.map av.pv),pI (n:Nat)] λp=>∃q:Bool,p=pB q/\(q=true->l.length<=n):=by
 refine ax.of (qL.c (ae.mk (λh=>⟨false,rfl,λh=>by cases h⟩) (λh=>?_)))
 have hn:l.length<=n:=by simpa using h
 refine aj.each (n:=l.length) (by omega) (λ_ _=>True) trivial (λk u next hk _ ar=>?_) (λu next _=>ae.f (by simp) ⟨true,rfl,λ_=>hn⟩)
 refine ae.t (by simpa using hk) ⟨by omega,_,aI hk,_,rfl,ae.mk (λ_=>⟨false,rfl,λh=>by cases h⟩) (λ_=>⟨by omega,_,aI hk,_,rfl,ae.mk (λ_=>⟨false,rfl,λh=>by cases h⟩) (λ_=>⟨by omega,_,aI hk,_,rfl,ae.mk (λ_=>⟨false,rfl,λh=>by cases h⟩) (λ_=>ar _ trivial)⟩)⟩)⟩
theorem KT(f:Fl)(l:List av)(n:Nat)(hn6:n<=1000000):ax prog 11 [.list 12 f (l.map av.pv),pI (n:Nat)] λp=>∃q:Bool,p=pB q/\(q=true->l.length<=n):=by
 refine ax.of (qM.c ?_)
 exact(aar f l n hn6).call λp ⟨q,e,h⟩=>⟨q,e,q,rfl,h⟩
def xy:Prop:=∀(μ:Mem) (K:Kq),(∀μ',K (pB true) μ')->ab prog 7 [] μ K
end Go.Proofs.YtbkejjmjopgpoaaGreat
namespace Go.az.Xv
open Go.RowKit Go.az
inductive Tr(α:Type) where
 |lf
 |nd (a:Tr α) (v:Option α) (b:Tr α)
noncomputable def Tr.get{α:Type}(t:Tr α):Nat->Option α:=
 Tr.rec (motive:=λ_=>Nat->Option α) (λ_=>none) (λ_ v _ ga gb k=>Nat.rec v (λm _=>Bool.rec (ga (Nat.div m 2)) (gb (Nat.div m 2)) (Nat.beq (Nat.mod m 2) 1)) k) t
noncomputable def Tr.Wg{α β:Type}(n:Nat):Nat->α->(Tr α->β)->β:=
 Nat.rec (motive:=λ_=>Nat->α->(Tr α->β)->β) (λ_ _ K=>K .lf) (λ_ r k x K=>Nat.rec (K (.nd .lf (some x) .lf)) (λm _=>Bool.rec (r (Nat.div m 2) x λa=>K (.nd a none .lf)) (r (Nat.div m 2) x λb=>K (.nd .lf none b)) (Nat.beq (Nat.mod m 2) 1)) k) n
noncomputable def Tr.bC{α β:Type}(t:Tr α):Nat->α->(Tr α->β)->β:=
 Tr.rec (motive:=λ_=>Nat->α->(Tr α->β)->β) (λk x K=>Tr.Wg (Nat.succ k) k x K) (λa v b pa pb k x K=>Nat.rec (K (.nd a (some x) b)) (λm _=>Bool.rec (pa (Nat.div m 2) x λa=>K (.nd a v b)) (pb (Nat.div m 2) x λb=>K (.nd a v b)) (Nat.beq (Nat.mod m 2) 1)) k) t
noncomputable def Tr.map{α:Type}(f:α->α)(t:Tr α):Tr α:=
 Tr.rec (motive:=λ_=>Tr α) .lf (λ_ v _ a b=>.nd a (Option.rec none (λx=>some (f x)) v) b) t
inductive XO where
 |cells (T:TypeId) (cs:List PV)
 |vec (T:TypeId) (sz:Nat) (cs:List PV)
 |lp (p:Option Code)
 |hole
 |dead
structure XW where
 m:Tr XO
 nx:Nat
abbrev Bs:=List (Tr XO)
structure XS where
 fr:Tr PV
 D:List (Nat×Nat)
structure aK where
 fn:Func
 cU:List Nat
 loops:List (Nat×mf)
 kU:List (Nat×List TypeId)
 om:List (Nat×cK)
inductive O(α:Type) where
 |bad
 |ok (a:α)
inductive zA where
 |code (d:aK)
 |pure (F:List PV->Option PV)
 |look (F:Bs->XW->List PV->Option PV)
 |DK (F:Bs->XW->List PV->O (PV×XW)) (d:aK)
structure YE where
 id:Nat
 d:aK
 ps:List Nat
 ts:List TypeId
 assign:Code
 body:Code
 s:XS
abbrev Cb:=Bs->List YE->PV->List PV->XW->O (PV×XW)
noncomputable def iN(ms:Bs)(i:Nat):Option XO:=
 List.rec none (λt _ r=>Option.rec r (λe=>some e) (t.get i)) ms
noncomputable def getM(bs:Bs)(w:XW)(i:Nat):Option XO:=Option.rec (iN bs i) (λe=>some e) (w.m.get i)
noncomputable def gz{β:Type}(w:XW)(i:Nat)(e:XO)(K:XW->β):β:=
 XW.rec (λm nx=>Tr.bC m i e λt=>K ⟨t,nx⟩) w
noncomputable def ca{β:Type}(bs:Bs)(w:XW)(i:Nat)(e:XO)(K:XW->O β):O β:=
 match getM bs w i with
 |none=>gz w i e K
 |some _=>.bad
noncomputable def gt(s:XS)(t:Nat):PV:=Option.rec (.aC []) (λv=>v) (s.fr.get t)
noncomputable def pt{β:Type}(s:XS)(t:Nat)(v:PV)(K:XS->β):β:=XS.rec (λfr D=>Tr.bC fr t v λf=>K ⟨f,D⟩) s
noncomputable def JW{β:Type}(vs:List PV):XS->Nat->Nat->(XS->β)->β:=
 List.rec (motive:=λ_=>XS->Nat->Nat->(XS->β)->β) (λs _ _ K=>K s) (λv _ r s k j K=>pt s (gx k j) v λs=>r s k (Nat.succ j) K) vs
noncomputable def MK(s:XS)(k:Nat)(n:Nat):Nat->List PV:=
 Nat.rec (motive:=λ_=>Nat->List PV) (λ_=>[]) (λ_ r j=>gt s (gx k j)::r (Nat.succ j)) n
noncomputable def NI:Value->Bool
 | .pointer (some _)| .slice (some _) _ _| .func .. | .agg _| .tuple _| .iface .. | .map _| .complex .. =>false
 |_=>true
noncomputable def UX:PV->Bool
 | .raw v=>NI v
 | .fn (.func _) [] []=>true
 |_=>false
noncomputable def Rf:PV->Bool
 | .agg cs=>cs.all UX
 | .aC cs=>cs.all UX
 |p=>UX p
noncomputable def ofX(v:Value):PV:=bif Rf (Ma v)then Ma v else .au
noncomputable def nI(P:Program)(t:TypeId)(z:Value):PV:=ofX z
noncomputable def aaL(P:Program)(t:TypeId)(ps:List (Nat×PV)):Option (List PV):=
 match(P.info? t).bind (·.zero),P.underlying t with
 |some z,some (.struct fs)=>bif (nI P t z).ok&&bG P t&&fs.toList.all λf=>(P.info? f.type).isSome then
   (match nI P t z with
   | .agg cs=>rf P fs ps cs
   |_=>none)else none
 |some z,some (.array len e)=>bif (P.info? e).isSome&&Nat.beq ps.length len&&Nat.beq z.cells.size (len*P.cellsOf e)then
   (match jh (P.cellsOf e) 0 ps with
   |some rows=>some rows.flatten
   |none=>none)else none
 |_,_=>none
noncomputable def cM(s:XS)(x:Operand):PV:=
 Operand.rec (λt=>gt s t) (λv=>ofX v) (λ_=>.au) (λf=>.fn (.func f) [] []) x
noncomputable def VC:Nat:=4611686018427387904
structure Cx where
 bs:Bs
 M:Tr FuncId
 d:aK
 cb:Cb
 Y:List YE
 fz:List Nat
 gd:Bool
 id:Nat
 s:XS
 w:XW
 dst:Option Nat
 ty:TypeId
noncomputable def fX(dst:Option Nat)(s:XS)(w:XW)(v:PV):O (XS×XW):=
 Option.rec (.ok (s,w)) (λd=>pt s d v λs=>.ok (s,w)) dst
noncomputable def TR(bs:Bs)(d:aK)(fz:List Nat)(dst:Option Nat)(s:XS)(w:XW)(id:Nat)(t:TypeId)(cs:List PV):O (XS×XW):=
 match dst with
 |none=>.bad
 |some k=>bif bA d.cU k then
   (bif !jL s.D k&& !bA fz k&&aE cs&&Nat.ble cs.length 65536 then pt s k (.box k 0) λs=>JW cs s k 0 λs=>.ok (⟨s.fr,(k,cs.length)::s.D⟩,w)else .bad)
  else ca bs w id (.cells t cs) λw=>fX dst s w (pP id 0)
noncomputable def Eo(bs:Bs)(w:XW)(b o n:Nat):Option (List PV):=
 match getM bs w b with
 |some (.cells _ cs)=>bif Nat.ble (Nat.add o n) cs.length then some ((cs.drop o).take n)else none
 |some (.vec _ _ cs)=>bif Nat.ble (Nat.add o n) cs.length then some ((cs.drop o).take n)else none
 |_=>none
noncomputable def PX:KV->PV->Bool
 | .raw k,.raw v=>(k.get v).isSome
 | .fn,.fn .. =>true
 |_,_=>false
noncomputable def oH:List KV->List PV->Bool
 |[],[]=>true
 |k::ks,v::vs=>PX k v&&oH ks vs
 |_,_=>false
noncomputable def kVX(P:Program)(t:TypeId)(v:PV):Bool:=
 match eE P true t with
 |some ks=>bif bG P t then(match v with| .agg cs=>oH ks cs|_=>false)else(match ks with|[k]=>PX k v|_=>false)
 |none=>false
noncomputable def PY(P:Program):List TypeId->List PV->Bool
 |[],[]=>true
 |t::ts,v::vs=>kVX P t v&&PY P ts vs
 |_,_=>false
noncomputable def kRX(P:Program)(t:TypeId)(v:PV):Bool:=
 match P.underlying t with
 |some (.tuple ts)=>(match v with| .aC vs=>PY P ts.toList vs|_=>false)
 |_=>kVX P t v
noncomputable def ldX(P:Program)(dst:Option Nat)(s:XS)(w:XW)(ks:List KV)(t:TypeId)(vs:Option (List PV)):O (XS×XW):=
 match vs with
 |some vs=>bif oH ks vs then fX dst s w (uD (bG P t) vs)else .bad
 |none=>.bad
noncomputable def stX(bs:Bs)(w:XW)(b o:Nat)(vs:List PV):O XW:=
 match getM bs w b with
 |some (.cells T cs)=>bif Nat.ble (Nat.add o vs.length) cs.length then gz w b (.cells T (ei cs o vs)) .ok else .bad
 |some (.vec T sz cs)=>bif Nat.ble (Nat.add o vs.length) cs.length then gz w b (.vec T sz (ei cs o vs)) .ok else .bad
 |_=>.bad
noncomputable def aaN(op:BinOp)(k:IntKind)(a b:Int):Option Value:=
 match op with
 | .add=>some (.int k (k.wrap (a+b)))
 | .sub=>some (.int k (k.wrap (a-b)))
 | .mul=>some (.int k (k.wrap (a*b)))
 | .quo=>bif b == 0 then none else some (.int k (k.wrap (a.tdiv b)))
 | .rem=>bif b == 0 then none else some (.int k (a.tmod b))
 | .eql=>some (.bool (a == b))
 | .neq=>some (.bool (a != b))
 | .lss=>some (.bool (decide (a<b)))
 | .leq=>some (.bool (decide (a<=b)))
 | .gtr=>some (.bool (decide (a>b)))
 | .geq=>some (.bool (decide (a>=b)))
 |_=>none
noncomputable def aaM(op:BinOp)(a b:ByteArray):Option Value:=
 match op with
 | .add=>bif Nat.blt (a.size+b.size) 9223372036854775808 then some (.string (a++b))else none
 | .eql=>some (.bool (aG a b))
 | .neq=>some (.bool (!aG a b))
 | .lss=>some (.bool (Op.bytesLess a.toList b.toList))
 | .leq=>some (.bool (Op.bytesLess a.toList b.toList||aG a b))
 | .gtr=>some (.bool (!(Op.bytesLess a.toList b.toList||aG a b)))
 | .geq=>some (.bool (!Op.bytesLess a.toList b.toList))
 |_=>none
noncomputable def IV(op:BinOp)(r:Bool):Option Value:=
 match op with
 | .eql=>some (.bool r)
 | .neq=>some (.bool (!r))
 |_=>none
noncomputable def aeX(P:Program)(op:BinOp)(t:TypeId)(a b:Array Value):Option Value:=
 match Ix P 8 t with
  |none=>none
  |some ks=>bif (Nat.beq ks.length a.size&&Nat.beq ks.length b.size)&& !P.eqGuardType P.depth t&&bG P t then
   (match eqs ks a.toList b.toList with
   |some r=>IV op r
   |none=>none)else none
noncomputable def IU(P:Program)(op:BinOp)(t:TypeId)(x y:Value):Option Value:=
 match x,y with
 | .int k a,.int k' b=>bif decide (k=k')then aaN op k a b else none
 | .string a,.string b=>aaM op a b
 | .bool a,.bool b=>match P.underlying t with
   |some .bool=>IV op (a == b)
   |_=>none
 | .agg a,.agg b=>aeX P op t a b
 | .pointer a,.pointer none=>match P.underlying t with
   |some (.pointer _)=>IV op a.isNone
   |_=>none
 | .slice a _ _,.slice none _ _=>match P.underlying t with
   |some (.slice _)=>IV op a.isNone
   |_=>none
 | .func _ _ _,.nilFunc=>match P.underlying t with
   |some (.func ..)=>IV op false
   |_=>none
 |_,_=>none
noncomputable def KZ(P:Program)(op:BinOp)(t:TypeId)(x y:PV):Option Value:=
 match x,y with
 | .raw a,.raw b=>IU P op t a b
 | .agg a,.agg b=>match eH a,eH b with
   |some a,some b=>IU P op t (.agg a.toArray) (.agg b.toArray)
   |_,_=>none
 | .fn f _ _,.raw .nilFunc=>IU P op t (.func f #[] #[]) .nilFunc
 |_,_=>none
noncomputable def EO(bs:Bs)(size:Nat)(w:XW)(y:PV):Option (List PV):=
 match y with
 | .raw (.slice (some ⟨b,o,none⟩) m _)=>Eo bs w b o (m*size)
 | .raw (.slice none 0 _)=>some []
 |_=>none
noncomputable def jv(y:PV):Nat:=
 match y with
 | .raw (.slice _ m _)=>m
 |_=>0
noncomputable def aaR(bs:Bs)(P:Program)(e:TypeId)(x y:PV)(w:XW)(id:Nat):O (PV×XW):=
 match(P.info? e).map (λi=>(i.size,i.bytes,i.zero.map λz=>z.cells.toList.length))with
 |some (size,bytes,some zl)=>bif Nat.beq zl size&& !Nat.beq size 0 then(match x with
  | .raw (.slice a n c)=>match EO bs size w y with
    |none=>.bad
    |some new=>bif Nat.ble ((n+jv y)*bytes) 140737488355328&&Nat.blt (n+jv y) 4611686018427387904&&Nat.ble n c then
     (bif Nat.beq (jv y) 0 then(bif Nat.beq n 0 then .ok (.raw (.slice a n c),w)else match a with
       |some ⟨b,o,none⟩=>(match Eo bs w b o (n*size)with|some _=>.ok (.raw (.slice a n c),w)|none=>.bad)
       |_=>.bad)
     else bif !aE new then .bad else
     bif Nat.blt c VC then
      (bif Nat.ble (n+jv y) c then(match a with
       |some ⟨b,o,none⟩=>match getM bs w b with
        |some (.cells T cs)=>bif Nat.ble (o+c*size) cs.length then gz w b (.cells T (ei cs (o+n*size) new)) λw=>.ok (.raw (.slice a (n+jv y) c),w)else .bad
        |_=>.bad
       |_=>.bad)
      else bif Nat.beq n 0 then ca bs w id (.vec e size new) λw=>.ok (.raw (.slice (some ⟨id,0,none⟩) (n+jv y) VC),w)
      else match a with
       |some ⟨b,o,none⟩=>(match Eo bs w b o (n*size)with
        |some qZ=>ca bs w id (.vec e size (qZ++new)) λw=>.ok (.raw (.slice (some ⟨id,0,none⟩) (n+jv y) VC),w)
        |none=>.bad)
       |_=>.bad)
     else(match a with
       |some ⟨b,off,none⟩=>match getM bs w b with
        |some (.vec T sz cs)=>bif Nat.beq T e&&Nat.beq sz size&&Nat.beq off ((c-VC)*size)&&Nat.ble (off+n*size) cs.length then
          gz w b .dead λw=>ca bs w id (.vec e size ((cs.drop off).take (n*size)++new)) λw=>.ok (.raw (.slice (some ⟨id,0,none⟩) (n+jv y) VC),w)else .bad
        |_=>.bad
       |_=>.bad))else .bad
  |_=>.bad)else .bad
 |_=>.bad
noncomputable def Dk(bs:Bs)(P:Program)(dst:Option Nat)(s:XS)(w:XW)(id:Nat)(b:Builtin)(args:List Operand)(ts:List TypeId):O (XS×XW):=
 match b,args,ts with
 | .len,[x],[t]=>match P.underlying t,cM s x with
   |some (.slice _),.raw (.slice _ n _)=>fX dst s w (pI n)
   |some .string,.raw (.string b)=>fX dst s w (pI b.size)
   |some (.array n _),v=>bif v.ok then fX dst s w (pI n)else .bad
   |_,_=>.bad
 | .append,[x,y],[t,t']=>match P.underlying t,P.underlying t' with
   |some (.slice e),some (.slice _)=>(match aaR bs P e (cM s x) (cM s y) w id with
    | .ok (p,w)=>fX dst s w p
    | .bad=>.bad)
   |_,_=>.bad
 | .min,xs,_=>match jM (cM s) xs with
   |some (k,i::is)=>fX dst s w (.raw (.int k (is.foldl (λx y=>if y<x then y else x) i)))
   |_=>.bad
 | .max,xs,_=>match jM (cM s) xs with
   |some (k,i::is)=>fX dst s w (.raw (.int k (is.foldl (λx y=>if y>x then y else x) i)))
   |_=>.bad
 |_,_,_=>.bad
noncomputable def KN(bs:Bs)(P:Program)(cb:Cb)(Y:List YE)(dst:Option Nat)(ty:TypeId)(s:XS)(w:XW)(f:PV)(args:List PV):O (XS×XW):=
 match cb bs Y f args w with
 | .ok (v,w)=>bif kRX P ty v then fX dst s w v else .bad
 | .bad=>.bad
noncomputable def YU(f:Fn):Bool:=match f with| .method _=>false|_=>true
noncomputable def Jt(dst:Option Nat)(s:XS)(w:XW)(c a b:Operand):O (XS×XW):=
 match cM s c with
  | .raw (.bool t)=>fX dst s w (bif t then cM s a else cM s b)
  |_=>.bad
noncomputable def N_(bs:Bs)(P:Program)(d:aK)(fz:List Nat)(dst:Option Nat)(id:Nat)(s:XS)(w:XW)(t:TypeId):O (XS×XW):=
 match(P.info? t).bind (·.zero)with
  |none=>.bad
  |some z=>bif (nI P t z).ok then TR bs d fz dst s w id t (nI P t z).cells else .bad
noncomputable def abH(bs:Bs)(d:aK)(fz:List Nat)(dst:Option Nat)(id:Nat)(s:XS)(w:XW)(t:TypeId)(v:PV):O (XS×XW):=
 bif v.ok then TR bs d fz dst s w id t v.cells else .bad
noncomputable def BT(P:Program)(dst:Option Nat)(s:XS)(w:XW)(t:TypeId)(ps:List (Nat×Operand)):O (XS×XW):=
 bif ps.all λp=>(cM s p.2).ok then match aaL P t (ps.map λp=>(p.1,cM s p.2))with
     |some vs=>fX dst s w (.agg vs)
     |none=>.bad else .bad
noncomputable def abF(bs:Bs)(P:Program)(dst:Option Nat)(id:Nat)(s:XS)(w:XW)(t:TypeId)(len:Nat)(ps:List (Nat×Operand)):O (XS×XW):=
 bif (ps.all λp=>(cM s p.2).ok)&&Nat.beq ps.length len then match oW P t with
     |none=>.bad
     |some e=>match jh (P.cellsOf e) 0 (ps.map λp=>(p.1,cM s p.2))with
      |some rows=>bif Nat.ble rows.flatten.length 65536&&((P.info? e).bind (·.zero)).isSome&& !Nat.beq (P.cellsOf e) 0&&Nat.blt len VC then
        ca bs w id (.cells e rows.flatten) λw=>fX dst s w (.raw (.slice (some ⟨id,0,none⟩) len len))else .bad
      |none=>.bad else .bad
noncomputable def Ju(bs:Bs)(P:Program)(dst:Option Nat)(s:XS)(w:XW)(t:TypeId)(v:PV):O (XS×XW):=
 match eE P true t with
  |none=>.bad
  |some ks=>match v with
   | .box k off=>match bY s.D k with
     |some m=>bif Nat.ble (Nat.add off ks.length) m&&aE (MK s k ks.length off)then fX dst s w (uD (bG P t) (MK s k ks.length off))else .bad
     |none=>.bad
   | .raw (.pointer (some ⟨b,off,none⟩))=>ldX P dst s w ks t (Eo bs w b off ks.length)
   |_=>.bad
noncomputable def NQ(bs:Bs)(P:Program)(fz:List Nat)(dst:Option Nat)(s:XS)(w:XW)(t:TypeId)(x y:PV):O (XS×XW):=
 bif y.ok&&Nat.beq y.cells.length (P.cellsOf t)&&(P.info? t).isSome then match x with
     | .box k off=>match bY s.D k with
       |some m=>bif Nat.ble (Nat.add off y.cells.length) m&& !bA fz k then JW y.cells s k off λs=>fX dst s w (.aC [])else .bad
       |none=>.bad
     | .raw (.pointer (some ⟨b,off,none⟩))=>(match stX bs w b off y.cells with
       | .ok w=>fX dst s w (.aC [])
       | .bad=>.bad)
     |_=>.bad
     else .bad
noncomputable def SG(dst:Option Nat)(s:XS)(w:XW)(v:PV):O (XS×XW):=
 match v with
  | .box k off=>fX dst s w (.box k off)
  | .raw (.pointer (some a))=>fX dst s w (.raw (.pointer (some a)))
  | .fn f a b=>bif YU f then fX dst s w (.fn f a b)else .bad
  |_=>.bad
noncomputable def Lk(P:Program)(dst:Option Nat)(s:XS)(w:XW)(op:BinOp)(t:TypeId)(x y:PV):O (XS×XW):=
 match KZ P op t x y with
  |some v=>fX dst s w (.raw v)
  |none=>.bad
noncomputable def xUn(dst:Option Nat)(s:XS)(w:XW)(op:UnOp)(x:PV):O (XS×XW):=
 match op,x with
  | .not,.raw (.bool b)=>fX dst s w (pB (!b))
  | .neg,.raw (.int k n)=>fX dst s w (.raw (.int k (k.wrap (0-n))))
  |_,_=>.bad
noncomputable def Jv(bs:Bs)(P:Program)(gd:Bool)(dst:Option Nat)(s:XS)(w:XW)(src t:TypeId)(x:PV):O (XS×XW):=
 match x with
  | .raw (.slice (some ⟨b,o,none⟩) n _)=>bif !gd&&tH P src t&&Nat.ble 1 n then(match Eo bs w b o n with
    |some cs=>(match mI (cs.map λc=>[c])with|some ns=>fX dst s w (pS (ofBytes ns))|none=>.bad)
    |none=>.bad)else .bad
  | .raw v=>bif NI v then(match pv P (convert src t v)with
    |some v'=>bif plain v'&&one v'&&NI v' then fX dst s w (.raw v')else .bad
    |none=>.bad)else .bad
  |_=>.bad
noncomputable def BP(P:Program)(dst:Option Nat)(s:XS)(w:XW)(t:TypeId)(x:PV):O (XS×XW):=
 bif x.ok&&(match P.underlying t with|some (.interface _)=>false|some _=>true|none=>false)then fX dst s w (.iface t x)else .bad
noncomputable def VJ(bs:Bs)(P:Program)(dst:Option Nat)(id:Nat)(s:XS)(w:XW)(t:TypeId)(x y:PV):O (XS×XW):=
 match P.underlying t,x,y with
  |some (.slice e),.raw (.int _ i),.raw (.int _ j)=>match(P.info? e).map (λi=>(i.size,i.bytes,i.zero.map λz=>(nI P e z).cells))with
   |some (size,bytes,some zero)=>bif Nat.beq zero.length size&& !Nat.beq size 0&&aE zero&&decide (0<=i)&&decide (i<=j)&&decide (j<4611686018427387904)&&Nat.ble (j.toNat*bytes) 140737488355328 then
     ca bs w id (.cells e (List.replicate j.toNat zero).flatten) λw=>fX dst s w (.raw (.slice (some ⟨id,0,none⟩) i.toNat j.toNat))else .bad
   |_=>.bad
  |_,_,_=>.bad
def YS(f:Fn):Bool:=match f with| .func _=>true|_=>false
noncomputable def xFn(dst:Option Nat)(s:XS)(w:XW)(fn:Fn)(first captured:List Operand):O (XS×XW):=
 bif !YS fn then .bad else bif first.all (λx=>(cM s x).ok)&&captured.all (λx=>(cM s x).ok)then
     fX dst s w (.fn fn (first.map λx=>cM s x) (captured.map λx=>cM s x))else .bad
noncomputable def NY(size:Nat)(dst:Option Nat)(s:XS)(w:XW)(a:Option Addr)(len cap:Nat)(l h:Int)(m:Option Int):O (XS×XW):=
 bif !(decide (0<=l)&&decide (l<=h))then .bad else
 bif Nat.blt cap VC then
  (bif decide (h<=m.getD cap)&&decide (m.getD cap<=cap)then fX dst s w (.raw (.slice (sX a l.toNat (m.getD cap).toNat size) (h.toNat-l.toNat) ((m.getD cap).toNat-l.toNat)))else .bad)
 else bif decide (h<=len)then(match a with
  |some ⟨b,off,none⟩=>(match m with
   |none=>fX dst s w (.raw (.slice (some ⟨b,off+l.toNat*size,none⟩) (h.toNat-l.toNat) (cap+l.toNat)))
   |some m=>bif decide (h<=m)&&decide (m<=len)&&Nat.blt 0 len&&Nat.blt len VC then fX dst s w (.raw (.slice (sX a l.toNat m.toNat size) (h.toNat-l.toNat) (m.toNat-l.toNat)))else .bad)
  |_=>.bad)else .bad
noncomputable def BN(P:Program)(dst:Option Nat)(s:XS)(w:XW)(t:TypeId)(x:PV)(lo hi mx:Option Operand):O (XS×XW):=
 match P.underlying t,x with
  |some (.slice e),.raw (.slice a len cap)=>match bT (cM s) lo 0,bT (cM s) hi len,(match mx with|none=>some none|some y=>(bT (cM s) (some y) 0).map some)with
   |some l,some h,some m=>bif (mx.isSome&&hi.isNone)||(P.info? e).isNone then .bad else NY (P.cellsOf e) dst s w a len cap l h m
   |_,_,_=>.bad
  |some .string,.raw (.string b)=>match mx with
   |some _=>.bad
   |none=>match bT (cM s) lo 0,bT (cM s) hi b.size with
    |some l,some h=>bif decide (0<=l)&&decide (l<=h)&&decide (h<=b.size)then fX dst s w (pS (b.extract l.toNat h.toNat))else .bad
    |_,_=>.bad
  |_,_=>.bad
noncomputable def BS(P:Program)(dst:Option Nat)(s:XS)(w:XW)(t:TypeId)(x:PV)(f:Nat):O (XS×XW):=
 match vl P t f with
  |none=>.bad
  |some d=>match x with
   | .box k off=>fX dst s w (.box k (Nat.add off d))
   | .raw (.pointer (some ⟨b,off,none⟩))=>fX dst s w (pP b (Nat.add off d))
   |_=>.bad
noncomputable def BR(P:Program)(dst:Option Nat)(s:XS)(w:XW)(t:TypeId)(x:PV)(f:Nat):O (XS×XW):=
 match x with
  | .agg cs=>match FF P t f cs with
    |some v=>fX dst s w v
    |none=>.bad
  |_=>.bad
noncomputable def BQ(P:Program)(dst:Option Nat)(s:XS)(w:XW)(t:TypeId)(x i:PV):O (XS×XW):=
 match P.underlying t,x,i with
  |some (.slice e),.raw (.slice (some ⟨b,off,none⟩) len _),.raw (.int _ j)=>bif (P.info? e).isSome&&decide (0<=j)&&decide (j<len)then fX dst s w (pP b (off+j.toNat*P.cellsOf e))else .bad
  |some (.array len e),.box k off,.raw (.int _ j)=>bif decide (0<=j)&&decide (j<len)&&(P.info? e).isSome then fX dst s w (.box k (off+j.toNat*P.cellsOf e))else .bad
  |_,_,_=>.bad
noncomputable def BO(P:Program)(dst:Option Nat)(s:XS)(w:XW)(t:TypeId)(x i:PV):O (XS×XW):=
 match P.underlying t,x,i with
  |some .string,.raw (.string b),.raw (.int _ j)=>bif decide (0<=j)then(match b[j.toNat]? with
   |some c=>fX dst s w (.raw (.int .u8 c.toNat))
   |none=>.bad)else .bad
  |some (.array len e),.agg cs,.raw (.int _ j)=>bif (P.info? e).isSome&&decide (0<=j)&&decide (j<len)then(match Aq P e (j.toNat*P.cellsOf e) cs with
   |some v=>bif kVX P e v then fX dst s w v else .bad
   |none=>.bad)else .bad
  |_,_,_=>.bad
noncomputable def SJ(dst:Option Nat)(s:XS)(w:XW)(x:PV)(i:Nat):O (XS×XW):=
 match x with
  | .aC vs=>match vs[i]? with
    |some v=>bif v.ok then fX dst s w v else .bad
    |none=>.bad
  |_=>.bad
noncomputable def Jw(bs:Bs)(P:Program)(M:Tr FuncId)(cb:Cb)(Y:List YE)(dst:Option Nat)(ty:TypeId)(id:Nat)(s:XS)(w:XW)(c:Call):O (XS×XW):=
 match c.callee with
  | .builtin b=>Dk bs P dst s w id b c.args.toList c.argTypes.toList
  | .value f=>bif c.args.toList.all (λx=>(cM s x).ok)then KN bs P cb Y dst ty s w (cM s f) (c.args.toList.map (cM s))else .bad
  | .invoke x name=>bif c.args.toList.all (λx=>(cM s x).ok)&&(name == "Compare")then(match cM s x with
    | .iface t p=>(match M.get t with
      |some g=>KN bs P cb Y dst ty s w (.fn (.func g) [] []) (p::c.args.toList.map (cM s))
      |none=>.bad)
    |_=>.bad)else .bad
noncomputable def Kk(bs:Bs)(w:XW)(b:Nat):Bool:=match getM bs w b with|some (.cells _ (_::_))=>true|some (.vec _ _ (_::_))=>true|_=>false
def Qa(op:BinOp):Bool:=match op with| .eql=>true|_=>false
def PZ(x:Operand):Bool:=match x with| .tmp _=>true|_=>false
noncomputable def NS(bs:Bs)(P:Program)(dst:Option Nat)(s:XS)(w:XW)(t:TypeId)(x y:PV):O (XS×XW):=
 match P.underlying t,x,y with
 |some (.pointer e),.raw (.pointer (some ⟨b,off,none⟩)),.raw (.pointer (some ⟨b',Cu,none⟩))=>
   bif sized P e&&Kk bs w b&&Kk bs w b' then fX dst s w (pB (Nat.beq b b'&&Nat.beq off Cu))else .bad
 |_,_,_=>.bad
noncomputable def Jx(bs:Bs)(P:Program)(gd tm:Bool)(dst:Option Nat)(s:XS)(w:XW)(op:BinOp)(t:TypeId)(x y:PV):O (XS×XW):=
 bif !gd&&tm&&Qa op&&lQ x&&lQ y then NS bs P dst s w t x y else Lk P dst s w op t x y
noncomputable def Ps(x:Operand)(c:Cx):O (XS×XW):=fX c.dst c.s c.w (cM c.s x)
noncomputable def Pr(a b e:Operand)(c:Cx):O (XS×XW):=Jt c.dst c.s c.w a b e
noncomputable def HJ(P:Program)(t:TypeId)(c:Cx):O (XS×XW):=N_ c.bs P c.d c.fz c.dst c.id c.s c.w t
noncomputable def YI(t:TypeId)(x:Operand)(c:Cx):O (XS×XW):=abH c.bs c.d c.fz c.dst c.id c.s c.w t (cM c.s x)
noncomputable def HI(P:Program)(t:TypeId)(ps:Array (Nat×Operand))(c:Cx):O (XS×XW):=BT P c.dst c.s c.w t ps.toList
noncomputable def YF(P:Program)(t:TypeId)(n:Nat)(ps:Array (Nat×Operand))(c:Cx):O (XS×XW):=abF c.bs P c.dst c.id c.s c.w t n ps.toList
noncomputable def Pv(P:Program)(t:TypeId)(x:Operand)(c:Cx):O (XS×XW):=Ju c.bs P c.dst c.s c.w t (cM c.s x)
noncomputable def HB(P:Program)(t:TypeId)(x y:Operand)(c:Cx):O (XS×XW):=NQ c.bs P c.fz c.dst c.s c.w t (cM c.s x) (cM c.s y)
noncomputable def YG(x:Operand)(c:Cx):O (XS×XW):=SG c.dst c.s c.w (cM c.s x)
noncomputable def YJ(P:Program)(op:BinOp)(t:TypeId)(x y:Operand)(_:TypeId)(c:Cx):O (XS×XW):=Jx c.bs P c.gd (PZ y) c.dst c.s c.w op t (cM c.s x) (cM c.s y)
noncomputable def oUn(op:UnOp)(_:TypeId)(x:Operand)(c:Cx):O (XS×XW):=xUn c.dst c.s c.w op (cM c.s x)
noncomputable def Pw(P:Program)(a b:TypeId)(x:Operand)(c:Cx):O (XS×XW):=Jv c.bs P c.gd c.dst c.s c.w a b (cM c.s x)
noncomputable def HE(P:Program)(t:TypeId)(x:Operand)(c:Cx):O (XS×XW):=BP P c.dst c.s c.w t (cM c.s x)
noncomputable def oFn(f:Fn)(a b:Array Operand)(c:Cx):O (XS×XW):=xFn c.dst c.s c.w f a.toList b.toList
noncomputable def Pu(P:Program)(t:TypeId)(x y:Operand)(c:Cx):O (XS×XW):=VJ c.bs P c.dst c.id c.s c.w t (cM c.s x) (cM c.s y)
noncomputable def HC(P:Program)(t:TypeId)(x:Operand)(a b e:Option Operand)(c:Cx):O (XS×XW):=BN P c.dst c.s c.w t (cM c.s x) a b e
noncomputable def HH(P:Program)(t:TypeId)(x:Operand)(f:Nat)(c:Cx):O (XS×XW):=BS P c.dst c.s c.w t (cM c.s x) f
noncomputable def HG(P:Program)(t:TypeId)(x:Operand)(f:Nat)(c:Cx):O (XS×XW):=BR P c.dst c.s c.w t (cM c.s x) f
noncomputable def HF(P:Program)(t:TypeId)(x i:Operand)(c:Cx):O (XS×XW):=BQ P c.dst c.s c.w t (cM c.s x) (cM c.s i)
noncomputable def HD(P:Program)(t:TypeId)(x i:Operand)(c:Cx):O (XS×XW):=BO P c.dst c.s c.w t (cM c.s x) (cM c.s i)
noncomputable def YH(x:Operand)(i:Nat)(c:Cx):O (XS×XW):=SJ c.dst c.s c.w (cM c.s x) i
noncomputable def Px(P:Program)(e:Call)(c:Cx):O (XS×XW):=Jw c.bs P c.M c.cb c.Y c.dst c.ty c.id c.s c.w e
noncomputable def X1(P:Program)(c:Cx)(op:Op):O (XS×XW):=
 Op.rec (motive:=λ_=>Cx->O (XS×XW)) Ps Ps Pr (HJ P) YI (HI P) (YF P) (λ_ _ _ _ _=>.bad) (Pv P) (HB P) (λ_ _=>.bad) (λ_ _=>.bad) YG (YJ P) oUn (Pw P) (λ_ _ _=>.bad) (HE P) oFn (λ_ _ _=>.bad) (λ_ _ _=>.bad) (Pu P) (HC P)
  (HH P) (HG P) (HF P) (HD P) (λ_ _ _ _ _=>.bad) (λ_ _ _ _ _=>.bad) (λ_ _ _ _=>.bad) (λ_ _ _ _ _=>.bad) (λ_ _ _=>.bad) (λ_ _ _=>.bad) (λ_ _=>.bad) (λ_ _ _ _ _=>.bad) YH (Px P)
  (λ_ _=>.bad) (λ_ _=>.bad) (λ_ _=>.bad) (λ_ _ _=>.bad) (λ_ _ _ _=>.bad) (λ_ _ _=>.bad) op c
structure Rx where
 bs:Bs
 M:Tr FuncId
 d:aK
 cb:Cb
 Y:List YE
 fz:List Nat
 ops:Array Oper
noncomputable def Rx.c(r:Rx)(gd:Bool)(id:Nat)(s:XS)(w:XW)(dst:Option Nat)(ty:TypeId):Cx:=⟨r.bs,r.M,r.d,r.cb,r.Y,r.fz,gd,id,s,w,dst,ty⟩
noncomputable def gdY(P:Program)(r:Rx)(id:Nat)(s:XS)(w:XW)(dst:Option Nat)(ty:TypeId)(op:Op)(g:Nat×Bool):O (XS×XW):=
 match kO r.ops g.1 with
  |none=>.bad
  |some k=>match gt s k with
   | .raw (.bool c)=>pt s k (pB c) λs=>bif c == g.2 then X1 P (r.c true id s w dst ty) op else fX dst s w (.aC [])
   | .aC _=>fX dst s w (.aC [])
   |_=>.bad
noncomputable def gdX(P:Program)(r:Rx)(id:Nat)(o:Oper)(s:XS)(w:XW):O (XS×XW):=
 Option.rec (X1 P (r.c false id s w o.dst o.type) o.op) (λg=>gdY P r id s w o.dst o.type o.op g) o.guard
noncomputable def WJ(P:Program)(r:Rx)(id:Nat)(o:Oper)(s:XS)(w:XW):O (XS×XW):=
 Option.rec (X1 P (r.c true id s w o.dst o.type) o.op) (λg=>gdY P r id s w o.dst o.type o.op g) o.guard
noncomputable def XL(P:Program)(l:List Oper):Rx->Nat->XS->XW->O (XS×XW):=
 List.rec (motive:=λ_=>Rx->Nat->XS->XW->O (XS×XW)) (λ_ _ s w=>.ok (s,w)) (λo _ k r id s w=>O.rec .bad (λx=>Prod.rec (λs w=>k r (Nat.succ id) s w) x) (gdX P r id o s w)) l
inductive Ji where
 |no
 |all
 |one (s:XS) (w:XW)
mutual
noncomputable def yX:PV->PV->Bool
 | .raw a,.raw b=>eqV a b
 | .list n f r,.list n' f' r'=>Nat.beq n n'&&ZW f f'&&MS r r'
 | .fn f a b,.fn f' a' b'=>(match f,f' with| .func g,.func g'=>Nat.beq g g'| .yield g,.yield g'=>Nat.beq g g'|_,_=>false)&&Iy a a'&&Iy b b'
 | .agg a,.agg b=>Iy a b
 | .aC a,.aC b=>Iy a b
 | .iface t p,.iface t' p'=>Nat.beq t t'&&yX p p'
 | .box k o,.box k' o'=>Nat.beq k k'&&Nat.beq o o'
 | .au,.au=>true
 |_,_=>false
noncomputable def Iy:List PV->List PV->Bool
 |[],[]=>true
 |a::l,b::l'=>yX a b&&Iy l l'
 |_,_=>false
noncomputable def MS:Lq->Lq->Bool
 |[],[]=>true
 |a::l,b::l'=>Iy a b&&MS l l'
 |_,_=>false
noncomputable def ZW:Fl->Fl->Bool
 | .sh,.sh=>true
 | .nr,.nr=>true
 | .nil,.nil=>true
 |_,_=>false
noncomputable def eqV:Value->Value->Bool
 | .int k a,.int k' b=>decide (k=k')&&a == b
 | .bool a,.bool b=>a == b
 | .string a,.string b=>aG a b
 | .pointer none,.pointer none=>true
 | .pointer (some ⟨b,o,none⟩),.pointer (some ⟨b',o',none⟩)=>Nat.beq b b'&&Nat.beq o o'
 | .slice none n c,.slice none n' c'=>Nat.beq n n'&&Nat.beq c c'
 | .slice (some ⟨b,o,none⟩) n c,.slice (some ⟨b',o',none⟩) n' c'=>Nat.beq b b'&&Nat.beq o o'&&Nat.beq n n'&&Nat.beq c c'
 | .nilFunc,.nilFunc=>true
 |_,_=>false
end
noncomputable def eqO:XO->XO->Bool
 | .cells T cs,.cells T' cN=>Nat.beq T T'&&Iy cs cN
 | .vec T n cs,.vec T' n' cN=>Nat.beq T T'&&Nat.beq n n'&&Iy cs cN
 | .lp none,.lp none=>true
 | .hole,.hole=>true
 | .dead,.dead=>true
 |_,_=>false
noncomputable def Tr.eq{α:Type}(f:α->α->Bool):Tr α->Tr α->Bool
 | .lf,.lf=>true
 | .nd a v b,.nd a' v' b'=>(match v,v' with|none,none=>true|some x,some y=>f x y|_,_=>false)&&a.eq f a'&&b.eq f b'
 |_,_=>false
noncomputable def eqD:List (Nat×Nat)->List (Nat×Nat)->Bool
 |[],[]=>true
 |(a,b)::l,(a',b')::l'=>Nat.beq a a'&&Nat.beq b b'&&eqD l l'
 |_,_=>false
noncomputable def eqR(s:XS)(w:XW)(s':XS)(w':XW):Bool:=
 s.fr.eq yX s'.fr&&eqD s.D s'.D&&Nat.beq w.nx w'.nx&&w.m.eq eqO w'.m
noncomputable def Bl(a b:Ji):Ji:=
 match a,b with
 | .no,_=>.no
 | .all,b=>b
 | .one s w,b=>match b with
   | .no=>.no
   | .all=>.one s w
   | .one s' w'=>bif eqR s w s' w' then .one s w else .no
noncomputable def nth(ops:List Oper)(i:Nat):Option Oper:=
 List.rec (motive:=λ_=>Nat->Option Oper) (λ_=>none) (λo _ r i=>Nat.rec (some o) (λm _=>r m) i) ops i
noncomputable def mT(P:Program)(r:Rx)(id i:Nat)(s:XS)(w:XW)(K:XS->XW->Ji):Ji:=
 Option.rec .no (λo=>O.rec .no (λx=>Prod.rec (λs w=>K s w) x) (WJ P r (Nat.add id i) o s w)) (nth r.ops.toList i)
noncomputable def isDone(p:cK):Bool:=cK.rec false (λ_ _ _=>false) (λ_ _ _ _ _=>false) (λ_ _ _ _ _=>false) true p
noncomputable def XQ(P:Program)(p:cK):Rx->Nat->XS->XW->Ji:=
 cK.rec (motive:=λ_=>Rx->Nat->XS->XW->Ji) (λ_ _ s w=>.one s w)
  (λi _ q r id s w=>mT P r id i s w λs _=>q r id s w)
  (λi _ _ q q' r id s w=>mT P r id i s w λs' _=>Bl (q r id s' w) (q' r id s w))
  (λi _ rr q q' r id s w=>Bool.rec (Bl (mT P r id i s w λs' w'=>q r id s' w') (q' r id s w)) (mT P r id i s w λs' w'=>q r id s' w') (isDone rr))
  (λ_ _ _ _=>.all) p
noncomputable def CH:cK->Bool
 | .nil=>true
 | .tk _ q=>CH q
 | .ld .. =>false
 | .alt _ q r=>(match r with| .done=>true|_=>false)&&CH q
 | .done=>true
noncomputable def Tr.tu{α β:Type}:Tr α->Tr α->(Tr α->β)->β
 | .lf,t,K=>K t
 | .nd a v b,.lf,K=>K (.nd a v b)
 | .nd a v b,.nd a' v' b',K=>a.tu a' λx=>b.tu b' λy=>match v with|some z=>K (.nd x (some z) y)|none=>K (.nd x v' y)
noncomputable def ac0(t:Tr XO)(r:Ji):O (XS×XW):=
 match r with
 | .one s w=>w.m.tu t λx=>.ok (s,⟨x,w.nx⟩)
 |_=>.bad
noncomputable def ac6(r:Ji):O (XS×XW):=
 match r with
 | .one s w=>.ok (s,w)
 |_=>.bad
noncomputable def QS(P:Program)(r:Rx)(LQ:Nat)(s:XS)(w:XW):O (XS×XW):=
 bif Ue r.d.cU LQ then(match look r.d.om LQ with
     |some p=>bif CH p then ac6 (XQ P p r w.nx s ⟨w.m,w.nx+r.ops.size⟩)
       else ac0 w.m (XQ P p ⟨w.m::r.bs,r.M,r.d,r.cb,r.Y,r.fz,r.ops⟩ w.nx s ⟨.lf,w.nx+r.ops.size⟩)
     |none=>.bad)else .bad
noncomputable def Tp(bs:Bs)(P:Program)(M:Tr FuncId)(d:aK)(cb:Cb)(Y:List YE)(fz:List Nat)(LQ:Nat)(ops:Array Oper)(drawn:Bool)(s:XS)(w:XW):O (XS×XW):=
 Bool.rec (XL P ops.toList ⟨bs,M,d,cb,Y,fz,ops⟩ w.nx s ⟨w.m,w.nx+ops.size⟩) (QS P ⟨bs,M,d,cb,Y,fz,ops⟩ LQ s w) drawn
noncomputable def EI(k:KV)(v:PV):Option PV:=match k.get v with|some x=>some (k.p x)|none=>none
noncomputable def ik:List KV->List PV->Option (List PV)
 |[],[]=>some []
 |k::ks,v::vs=>match EI k v with
  |some x=>match ik ks vs with|some xs=>some (x::xs)|none=>none
  |none=>none
 |_,_=>none
noncomputable def nW(s:XS):List (Nat×Nat)->Bool
 |[]=>true
 |(k,m)::l=>di s.D k m&&CK (gt s k) k&&nW s l
noncomputable def xZ{β:Type}(ts:List Nat):XS->(XS->β)->β:=
 List.rec (motive:=λ_=>XS->(XS->β)->β) (λs K=>K s) (λt _ r s K=>bif Nat.blt t 65536 then pt s t .au λs=>r s K else r s K) ts
noncomputable def Ce{β:Type}(l:List (Nat×Nat)):XS->(XS->β)->β:=
 List.rec (motive:=λ_=>XS->(XS->β)->β) (λs K=>K s) (λx _ r s K=>pt s x.1 (.box x.1 0) λs=>JW (List.replicate x.2 .au) s x.1 0 λs=>r s K) l
noncomputable def sa(s:XS)(l:l_):XS->O XS:=
 List.rec (motive:=λ_=>XS->O XS) (λb=>.ok b) (λx _ r b=>match x with
 |(t,.one k)=>(match EI k (gt s t)with
  |some v=>pt b t v λb=>r b
  |none=>.bad)
 |(t,.agg ks)=>(match gt s t with
  | .agg a=>(match ik ks a with
    |some v=>pt b t (.agg v) λb=>r b
    |none=>.bad)
  |_=>.bad)
 |(t,.box ks)=>(match gt s t with
  | .box k o=>bif (Nat.beq k t&&Nat.beq o 0)&&di s.D t ks.length then(match ik ks (MK s t ks.length 0)with
    |some v=>pt b t (.box t 0) λb=>JW v b t 0 λb=>r ⟨b.fr,bif di b.D t ks.length then b.D else(t,ks.length)::b.D⟩
    |none=>.bad)else .bad
  |_=>.bad)) l
noncomputable def za(base:XS)(c:mf)(s:XS):O XS:=bif nW s c.cB then sa s c.live base else .bad
noncomputable def EU(cut:XS->O XS)(body:XS->XW->O (Exit×XS×XW))(n:Nat):XS->XW->O (Exit×XS×XW):=
 Nat.rec (motive:=λ_=>XS->XW->O (Exit×XS×XW)) (λ_ _=>.bad) (λ_ r s w=>O.rec .bad (λs=>O.rec .bad (λx=>match x with
  |(.normal,s,w)=>r s w
  |x=>.ok x) (body s w)) (cut s)) n
noncomputable def unbox:PV->PV
 | .box _ _=>.au
 |v=>v
noncomputable def RV(bs:Bs)(body:Code)(w:XW)(i:Nat)(s:XS):O (Exit×XS×XW):=
 match getM bs w i with
 |some (.lp p)=>gz w i .dead λw=>(match p with
  |none=>.ok (.normal,s,w)
  |some .ret=>bif fx body then .ok (.ret,s,w)else .bad
  |some (.exit i)=>bif bA (fR body) i then .ok (.exit i,s,w)else .bad
  |some _=>.bad)
 |_=>.bad
noncomputable def Yf(bs:Bs)(d:aK)(cb:Cb)(f:PV)(ps:List Nat)(assign body:Code)(Y:List YE)(s:XS)(w:XW):O (Exit×XS×XW):=
 match look d.kU (ps.headD 0)with
  |none=>.bad
  |some ts=>bif Nat.beq ts.length ps.length then
    (match f with
    | .fn (.func g) first iW=>ca bs w w.nx (.lp none) λw1=>
      (match cb bs (⟨w.nx,d,ps,ts,assign,body,⟨s.fr.map unbox,[]⟩⟩::Y) (.fn (.func g) first iW) [.fn (.yield w.nx) [] []] ⟨w1.m,Nat.succ w.nx⟩with
      | .ok (_,w2)=>RV bs body w2 w.nx s
      | .bad=>.bad)
    |_=>.bad)
   else .bad
noncomputable def aaK(id:Nat)(x:O (Exit×XS×XW)):O (Exit×XS×XW):=
 match x with
 | .ok (.exit i,s,w)=>bif Nat.beq i id then .ok (.normal,s,w)else .ok (.exit i,s,w)
 |x=>x
noncomputable def QV(v:PV)(a b:O (Exit×XS×XW)):O (Exit×XS×XW):=
 match v with
 | .raw (.bool t)=>Bool.rec b a t
 |_=>.bad
noncomputable def uN(bs:Bs)(P:Program)(M:Tr FuncId)(d:aK)(cb:Cb)(lf:Nat)(c:Code):List Nat->List YE->XS->XW->O (Exit×XS×XW):=
 Code.rec (motive:=λ_=>List Nat->List YE->XS->XW->O (Exit×XS×XW))
  (λ_ _ s w=>.ok (.normal,s,w))
  (λid ops dr fz Y s w=>O.rec .bad (λx=>.ok (.normal,x)) (Tp bs P M d cb Y fz id ops dr s w))
  (λ_ _ a b fz Y s w=>O.rec .bad (λx=>match x with
   |(.normal,s,w)=>b fz Y s w
   |x=>.ok x) (a fz Y s w))
  (λc _ _ a b fz Y s w=>QV (cM s c) (a fz Y s w) (b fz Y s w))
  (λid _ a fz Y s w=>aaK id (a fz Y s w))
  (λc a fz Y s w=>match(cG c).bind (look d.loops)with
   |none=>.bad
   |some l=>bif jJ fz s.D l.er then xZ (writes c) s λb=>Ce l.cB b λb=>EU (za b l) (λs1 w1=>a (freeze fz s.D l.er) Y s1 w1) lf s w else .bad)
  (λf ps aqz bd _ _ _ Y s w=>Yf bs d cb (cM s f) ps.toList aqz bd Y s w)
  (λi _ _ s w=>.ok (.exit i,s,w))
  (λ_ _ _ _ _ _=>.bad) (λ_ _ _ _ _=>.bad) (λ_ _ _ _ _=>.bad)
  (λ_ _ s w=>.ok (.ret,s,w))
  (λ_ _ _ _ _=>.bad) c
noncomputable def Ha{β:Type}(ps:List Nat):List PV->XS->(XS->β)->β:=
 List.rec (motive:=λ_=>List PV->XS->(XS->β)->β) (λ_ s K=>K s) (λp _ r vs s K=>List.rec (K s) (λv vs _=>pt s p v λs=>r vs s K) vs) ps
noncomputable def Ci(bs:Bs)(P:Program)(s:XS)(w:XW):List ResultVar->Option (List PV)
 |[]=>some []
 | .tmp t::l=>bif (gt s t).ok then(match Ci bs P s w l with|some vs=>some (gt s t::vs)|none=>none)else none
 | .cell a t::l=>match eE P true t with
   |none=>none
   |some ks=>match gt s a with
    | .box k off=>match bY s.D k with
      |some m=>bif Nat.ble (off+ks.length) m&&aE (MK s k ks.length off)then(match Ci bs P s w l with|some vs=>some (uD (bG P t) (MK s k ks.length off)::vs)|none=>none)else none
      |none=>none
    | .raw (.pointer (some ⟨b,off,none⟩))=>(match Eo bs w b off ks.length with
      |some us=>bif oH ks us then(match Ci bs P s w l with|some vs=>some (uD (bG P t) us::vs)|none=>none)else none
      |none=>none)
    |_=>none
noncomputable def Vy{β:Type}(vs:List PV):Nat->XS->(XS->β)->β:=
 List.rec (motive:=λ_=>Nat->XS->(XS->β)->β) (λ_ s K=>K s) (λv _ r i s K=>pt s i v λs=>r (Nat.succ i) s K) vs
noncomputable def KC(i:Nat):List YE->Option (YE×List YE)
 |[]=>none
 |y::Y=>bif Nat.beq y.id i then some (y,Y)else KC i Y
noncomputable def Yi(bs:Bs)(P:Program)(d:aK)(x:O (Exit×XS×XW)):O (PV×XW):=
 match x with
 | .ok (e,s,w)=>(match e with
   | .normal| .ret=>(match Ci bs P s w d.fn.results.toList with
     |none=>.bad
     |some [v]=>.ok (v,w)
     |some vs=>.ok (.aC vs,w))
   |_=>.bad)
 | .bad=>.bad
noncomputable def alQ(i:Nat)(x:O (Exit×XS×XW)):O (PV×XW):=
 match x with
 | .ok (e,_,w)=>(match e with
   | .normal=>gz w i (.lp none) λw=>.ok (pB true,w)
   | .ret=>gz w i (.lp (some .ret)) λw=>.ok (pB false,w)
   | .exit j=>gz w i (.lp (some (.exit j))) λw=>.ok (pB false,w)
   |_=>.bad)
 | .bad=>.bad
noncomputable def cdX(bs:Bs)(P:Program)(M:Tr FuncId)(cb:Cb)(lf:Nat)(Y:List YE)(d:aK)(args:List PV)(w:XW):O (PV×XW):=
 bif Nat.ble args.length d.fn.ntmps then Vy args 0 ⟨.lf,[]⟩ λs=>match d.fn.body with
    |none=>.bad
    |some c=>Yi bs P d (uN bs P M d cb lf c [] Y s w)else .bad
noncomputable def fnX(bs:Bs)(P:Program)(M:Tr FuncId)(T:Tr zA)(cb:Cb)(lf:Nat)(Y:List YE)(f:PV)(args:List PV)(w:XW):O (PV×XW):=
 match f with
  | .fn (.func g) first iW=>(match T.get g with
    |none=>.bad
    |some (.pure F)=>(match F (first++args++iW)with
     |some v=>.ok (v,w)
     |none=>.bad)
    |some (.look F)=>(match F bs w (first++args++iW)with
     |some v=>.ok (v,w)
     |none=>.bad)
    |some (.DK F d)=>(match F bs w (first++args++iW)with
     | .ok x=>.ok x
     | .bad=>cdX bs P M cb lf Y d (first++args++iW) w)
    |some (.code d)=>cdX bs P M cb lf Y d (first++args++iW) w)
  | .fn (.yield i) [] []=>(match KC i Y with
    |none=>.bad
    |some (y,Y)=>match getM bs w i with
     |some (.lp none)=>bif PY P y.ts args then(gz w i .hole λw=>Ha y.ps args y.s λs=>
      match uN bs P M y.d cb lf y.assign [] Y s w with
      | .ok (.normal,s,w)=>alQ i (uN bs P M y.d cb lf y.body [] Y s w)
      |_=>.bad)else .bad
     |_=>.bad)
  |_=>.bad
noncomputable def zf(P:Program)(M:Tr FuncId)(T:Tr zA)(lf:Nat)(n:Nat):Cb:=
 Nat.rec (motive:=λ_=>Cb) (λ_ _ _ _ _=>.bad) (λ_ cb bs Y f args w=>fnX bs P M T cb lf Y f args w) n
def cI(a b:Int):Int:=bif decide (a<b)then -1 else bif decide (b<a)then 1 else 0
def cS(a b:ByteArray):Int:=bif Op.bytesLess a.toList b.toList then -1 else bif aG a b then 0 else 1
def cSy(a:Int)(s:ByteArray)(n a':Int)(s':ByteArray)(n':Int):Int:=bif cI a a' == 0 then(bif cS s s' == 0 then cI n n' else cS s s')else cI a a'
def ans:List PV->Option PV
 |[.raw (.int .i64 a),.raw (.int .i64 b)]=>some (pI (cI a b))
 |_=>none
def Iv:List PV->Option PV
 |[.agg [.raw (.int .i64 a),.raw (.string s),.raw (.int .i64 n)],.agg [.raw (.int .i64 a'),.raw (.string s'),.raw (.int .i64 n')]]=>some (pI (cSy a s n a' s' n'))
 |_=>none
theorem Vm{γ:Sort _}(a b:γ)(c:Nat):(Bool.rec a b (Nat.beq (Nat.mod c 2) 1):γ)=if c % 2=1 then b else a:=by
 by_cases h:c % 2=1
 ·have:Nat.beq (Nat.mod c 2) 1=true:=beq_iff.2 h
  rw[if_pos h,this]
 ·have:Nat.beq (Nat.mod c 2) 1=false:=by
   cases hb:Nat.beq (Nat.mod c 2) 1 with
   |false=>rfl
   |true=>exact absurd (beq_iff.1 hb) h
  rw[if_neg h,this]
section tries
variable {α:Type}
theorem Tr.CU(k:Nat):(Tr.lf:Tr α).get k=none:=rfl
theorem Tr.jR(a b:Tr α)(v:Option α)(m:Nat):(Tr.nd a v b).get (m+1)=if m % 2=1 then b.get (m/2)else a.get (m/2):=Vm (a.get (m/2)) (b.get (m/2)) m
theorem half{m n:Nat}(h1:m % 2=n % 2)(h2:m/2=n/2):m=n:=by omega
theorem Tr.Ke:∀(n k:Nat) (x:α),k<n->∃t:Tr α,(∀{β:Type} (K:Tr α->β),Tr.Wg n k x K=K t)/\∀k',t.get k'=if k'=k then some x else none
 |0,k,x,h=>by omega
 |n+1,0,x,h=>⟨.nd .lf (some x) .lf,λK=>rfl,λk'=>by
  cases k' with
  |zero=>rfl
  |succ m=>rw[Tr.jR];simp[Tr.CU]⟩
 |n+1,m+1,x,h=>by
  obtain⟨t,h1,h2⟩:=Tr.Ke n (m/2) x (by omega)
  by_cases hm:m % 2=1
  ·refine⟨.nd .lf none t,λ{β} K=>?_,λk'=>?_⟩
   ·have:Tr.Wg (n+1) (m+1) x K=if m % 2=1 then Tr.Wg n (m/2) x (λb=>K (.nd .lf none b))else Tr.Wg n (m/2) x (λa=>K (.nd a none .lf)):=Vm _ _ m
    rw[this,if_pos hm,h1]
   ·cases k' with
    |zero=>rfl
    |succ k=>
     rw[Tr.jR]
     by_cases hk:k % 2=1
     ·rw[if_pos hk,h2]
      by_cases e:k/2=m/2
      ·rw[if_pos e,if_pos (by have:=half (hk.trans hm.symm) e;omega)]
      ·rw[if_neg e,if_neg (by rintro e';exact e (by rw[Nat.succ.inj e']))]
     ·rw[if_neg hk,Tr.CU,if_neg (by rintro e';exact hk (by rw[Nat.succ.inj e'];exact hm))]
  ·refine⟨.nd t none .lf,λ{β} K=>?_,λk'=>?_⟩
   ·have:Tr.Wg (n+1) (m+1) x K=if m % 2=1 then Tr.Wg n (m/2) x (λb=>K (.nd .lf none b))else Tr.Wg n (m/2) x (λa=>K (.nd a none .lf)):=Vm _ _ m
    rw[this,if_neg hm,h1]
   ·cases k' with
    |zero=>rfl
    |succ k=>
     rw[Tr.jR]
     by_cases hk:k % 2=1
     ·rw[if_pos hk,Tr.CU,if_neg (by rintro e';exact hm (by rw[<- Nat.succ.inj e'];exact hk))]
     ·rw[if_neg hk,h2]
      by_cases e:k/2=m/2
      ·rw[if_pos e,if_pos (by have:=half (m:=k) (n:=m) (by omega) e;omega)]
      ·rw[if_neg e,if_neg (by rintro e';exact e (by rw[Nat.succ.inj e']))]
theorem Tr.oc:∀(t:Tr α) (k:Nat) (x:α),∃t':Tr α,(∀{β:Type} (K:Tr α->β),t.bC k x K=K t')/\∀k',t'.get k'=if k'=k then some x else t.get k'
 | .lf,k,x=>by
   obtain⟨t,h1,h2⟩:=Tr.Ke (k+1) k x (by omega)
   exact⟨t,λK=>h1 K,h2⟩
 | .nd a v b,0,x=>⟨.nd a (some x) b,λK=>rfl,λk'=>by
   cases k' with
   |zero=>rfl
   |succ m=>rw[if_neg (Nat.succ_ne_zero m),Tr.jR,Tr.jR]⟩
 | .nd a v b,m+1,x=>by
   have hd:∀{β:Type} (K:Tr α->β),(Tr.nd a v b).bC (m+1) x K=if m % 2=1 then b.bC (m/2) x (λb=>K (.nd a v b))else a.bC (m/2) x (λa=>K (.nd a v b)):=λK=>Vm _ _ m
   by_cases hm:m % 2=1
   ·obtain⟨t,h1,h2⟩:=Tr.oc b (m/2) x
    refine⟨.nd a v t,λ{β} K=>by rw[hd,if_pos hm,h1],λk'=>?_⟩
    cases k' with
    |zero=>rw[if_neg (by omega)];rfl
    |succ k=>
     rw[Tr.jR,Tr.jR]
     by_cases hk:k % 2=1
     ·rw[if_pos hk,if_pos hk,h2]
      by_cases e:k/2=m/2
      ·rw[if_pos e,if_pos (by have:=half (hk.trans hm.symm) e;omega)]
      ·rw[if_neg e,if_neg (by rintro e';exact e (by rw[Nat.succ.inj e']))]
     ·rw[if_neg hk,if_neg hk,if_neg (by rintro e';exact hk (by rw[Nat.succ.inj e'];exact hm))]
   ·obtain⟨t,h1,h2⟩:=Tr.oc a (m/2) x
    refine⟨.nd t v b,λ{β} K=>by rw[hd,if_neg hm,h1],λk'=>?_⟩
    cases k' with
    |zero=>rw[if_neg (by omega)];rfl
    |succ k=>
     rw[Tr.jR,Tr.jR]
     by_cases hk:k % 2=1
     ·rw[if_pos hk,if_pos hk,if_neg (by rintro e';exact hm (by rw[<- Nat.succ.inj e'];exact hk))]
     ·rw[if_neg hk,if_neg hk,h2]
      by_cases e:k/2=m/2
      ·rw[if_pos e,if_pos (by have:=half (m:=k) (n:=m) (by omega) e;omega)]
      ·rw[if_neg e,if_neg (by rintro e';exact e (by rw[Nat.succ.inj e']))]
theorem Tr.get_map(f:α->α):∀(t:Tr α) (k:Nat),(t.map f).get k=(t.get k).map f
 | .lf,k=>rfl
 | .nd a v b,0=>by cases v<;>rfl
 | .nd a v b,m+1=>by
   have:(Tr.nd a v b).map f=.nd (a.map f) (Option.rec none (λx=>some (f x)) v) (b.map f):=rfl
   rw[this,Tr.jR,Tr.jR,Tr.get_map f b,Tr.get_map f a]
   split<;>rfl
theorem Tr.pY:∀(t u:Tr α),∃x:Tr α,(∀{β:Type} (K:Tr α->β),t.tu u K=K x)/\∀k,x.get k=(match t.get k with|some v=>some v|none=>u.get k)
 | .lf,u=>⟨u,λK=>rfl,λk=>rfl⟩
 | .nd a v b,.lf=>⟨.nd a v b,λK=>rfl,λk=>by cases h:(Tr.nd a v b).get k<;>simp[h,Tr.CU]⟩
 | .nd a v b,.nd a' v' b'=>by
   obtain⟨x,h1,h2⟩:=Tr.pY a a'
   obtain⟨y,h3,h4⟩:=Tr.pY b b'
   cases v with
   |none=>
    refine⟨.nd x v' y,λ{β} K=>by simp only[Tr.tu,h1,h3],λk=>?_⟩
    cases k with
    |zero=>rfl
    |succ m=>simp only[Tr.jR];split<;>simp[h2,h4]
   |some z=>
    refine⟨.nd x (some z) y,λ{β} K=>by simp only[Tr.tu,h1,h3],λk=>?_⟩
    cases k with
    |zero=>rfl
    |succ m=>simp only[Tr.jR];split<;>simp[h2,h4]
end tries
structure aU where
 m:Nat->Option (Nat×Nat×Nat)
 r:Nat->Option Code->Ob
def aU.le(β γ:aU):Prop:=∀i x,β.m i=some x->γ.m i=some x/\γ.r i=β.r i
theorem aU.le.refl(β:aU):β.le β:=λ_ _ h=>⟨h,rfl⟩
theorem aU.le.trans{β γ δ:aU}(h:β.le γ)(k:γ.le δ):β.le δ:=λi x hx=>⟨(k i x (h i x hx).1).1,(k i x (h i x hx).1).2.trans (h i x hx).2⟩
inductive Dq(β:aU):Value->Value->Prop where
 |cl (v:Value) (h:NI v=true):Dq β v v
 |ptr (i o b a c:Nat) (h:β.m i=some (b,a,c)):Dq β (.pointer (some ⟨i,o,none⟩)) (.pointer (some ⟨b,a+o,none⟩))
 |sl (i o n k b a c:Nat) (h:β.m i=some (b,a,c)) (hk:k<VC):Dq β (.slice (some ⟨i,o,none⟩) n k) (.slice (some ⟨b,a+o,none⟩) n k)
 |vs (i o n l b a c:Nat) (h:β.m i=some (b,a,c)) (hl:l+n<=c):Dq β (.slice (some ⟨i,o,none⟩) n (VC+l)) (.slice (some ⟨b,a+o,none⟩) n (c-l))
 |ve (i o l b a o':Nat) (h:β.m i=some (b,a,l)) (ho:o'<=a+o):Dq β (.slice (some ⟨i,o,none⟩) 0 (VC+l)) (.slice (some ⟨b,o',none⟩) 0 0)
inductive RlN(β:aU):Fn->Fn->Prop where
 |func (g:FuncId):RlN β (.func g) (.func g)
 |yield (i l a c:Nat) (h:β.m i=some (l,a,c)):RlN β (.yield i) (.yield l)
inductive Rl(β:aU):PV->PV->Prop where
 |raw (v w:Value) (h:Dq β v w):Rl β (.raw v) (.raw w)
 |fn (f g:Fn) (a b c d:List PV) (hf:RlN β f g) (h1:a.length=b.length) (h2:c.length=d.length) (ha:∀(i:Nat) p q,a[i]?=some p->b[i]?=some q->Rl β p q) (hc:∀(i:Nat) p q,c[i]?=some p->d[i]?=some q->Rl β p q):Rl β (.fn f a c) (.fn g b d)
 |agg (a b:List PV) (h1:a.length=b.length) (ha:∀(i:Nat) p q,a[i]?=some p->b[i]?=some q->Rl β p q):Rl β (.agg a) (.agg b)
 |aC (a b:List PV) (h1:a.length=b.length) (ha:∀(i:Nat) p q,a[i]?=some p->b[i]?=some q->Rl β p q):Rl β (.aC a) (.aC b)
 |iface (t:TypeId) (p q:PV) (h:Rl β p q):Rl β (.iface t p) (.iface t q)
 |box (k o:Nat):Rl β (.box k o) (.box k o)
 |au (p:PV):Rl β .au p
def bq(β:aU)(a b:List PV):Prop:=a.length=b.length/\∀(i:Nat) p q,a[i]?=some p->b[i]?=some q->Rl β p q
theorem Dq.mono{β γ:aU}(hl:β.le γ){v w:Value}(h:Dq β v w):Dq γ v w:=by
 cases h with
 |cl _ h=>exact .cl _ h
 |ptr i o b a c h=>exact .ptr i o b a c (hl _ _ h).1
 |sl i o n k b a c h hk=>exact .sl i o n k b a c (hl _ _ h).1 hk
 |vs i o n l b a c h h2=>exact .vs i o n l b a c (hl _ _ h).1 h2
 |ve i o l b a o' h ho=>exact .ve i o l b a o' (hl _ _ h).1 ho
theorem RlN.mono{β γ:aU}(hl:β.le γ){v w:Fn}(h:RlN β v w):RlN γ v w:=by
 cases h with
 |func g=>exact .func g
 |yield i l a c h=>exact .yield i l a c (hl _ _ h).1
theorem Rl.mono{β γ:aU}(hl:β.le γ){p q:PV}(h:Rl β p q):Rl γ p q:=by
 induction h with
 |raw v w h=>exact .raw v w (h.mono hl)
 |fn f g a b c d hf h1 h2 ha hc ih1 ih2=>exact .fn f g a b c d (hf.mono hl) h1 h2 ih1 ih2
 |agg a b h1 ha ih=>exact .agg a b h1 ih
 |aC a b h1 ha ih=>exact .aC a b h1 ih
 |iface t p q h ih=>exact .iface t p q ih
 |box k o=>exact .box k o
 |au p=>exact .au p
theorem bq.mono{β γ:aU}(hl:β.le γ){a b:List PV}(h:bq β a b):bq γ a b:=⟨h.1,λi p q x y=>(h.2 i p q x y).mono hl⟩
theorem bq.nil(β:aU):bq β [] []:=⟨rfl,by simp⟩
theorem bq.cons{β:aU}{p q:PV}{a b:List PV}(h:Rl β p q)(hs:bq β a b):bq β (p::a) (q::b):=⟨by simp[hs.1],λi x y hx hy=>by
 cases i with
 |zero=>simp only[List.getElem?_cons_zero,Option.some.injEq]at hx hy;subst hx;subst hy;exact h
 |succ i=>simp only[List.getElem?_cons_succ]at hx hy;exact hs.2 i x y hx hy⟩
theorem bq.inv{β:aU}{p:PV}{a b:List PV}(h:bq β (p::a) b):∃q b',b=q::b'/\Rl β p q/\bq β a b':=by
 cases b with
 |nil=>exact absurd h.1 (by simp)
 |cons q b=>exact⟨q,b,rfl,h.2 0 p q rfl rfl,by simpa using h.1,λi x y hx hy=>h.2 (i+1) x y (by simpa using hx) (by simpa using hy)⟩
theorem bq.cW{β:aU}{b:List PV}(h:bq β [] b):b=[]:=List.eq_nil_of_length_eq_zero h.1.symm
theorem bq.append{β:aU}{a b c d:List PV}(h:bq β a b)(k:bq β c d):bq β (a++c) (b++d):=by
 induction a generalizing b with
 |nil=>rw[h.cW];exact k
 |cons p a ih=>obtain⟨q,b',rfl,h1,h2⟩:=h.inv;exact bq.cons h1 (ih h2)
theorem bq.take{β:aU}{a b:List PV}(h:bq β a b)(n:Nat):bq β (a.take n) (b.take n):=by
 induction a generalizing b n with
 |nil=>rw[h.cW];simpa using bq.nil β
 |cons p a ih=>
  obtain⟨q,b',rfl,h1,h2⟩:=h.inv
  cases n with
  |zero=>exact bq.nil β
  |succ n=>exact bq.cons h1 (ih h2 n)
theorem bq.drop{β:aU}{a b:List PV}(h:bq β a b)(n:Nat):bq β (a.drop n) (b.drop n):=by
 induction a generalizing b n with
 |nil=>rw[h.cW];simpa using bq.nil β
 |cons p a ih=>
  obtain⟨q,b',rfl,h1,h2⟩:=h.inv
  cases n with
  |zero=>exact bq.cons h1 h2
  |succ n=>exact ih h2 n
theorem bq.get{β:aU}{a b:List PV}(h:bq β a b){i:Nat}{p:PV}(hp:a[i]?=some p):∃q,b[i]?=some q/\Rl β p q:=by
 have hi:i<a.length:=(List.getElem?_eq_some_iff.1 hp).1
 have wQ:i<b.length:=by rw[<- h.1];exact hi
 exact⟨b[i],List.getElem?_eq_getElem wQ,h.2 i p _ hp (List.getElem?_eq_getElem wQ)⟩
theorem bq.map{β:aU}{ι:Type}{f g:ι->PV}(l:List ι)(h:∀x∈l,Rl β (f x) (g x)):bq β (l.map f) (l.map g):=by
 induction l with
 |nil=>exact bq.nil β
 |cons x l ih=>exact bq.cons (h x (by simp)) (ih λy hy=>h y (by simp[hy]))
theorem bq.same{β:aU}{l:List PV}(h:∀p∈l,Rl β p p):bq β l l:=⟨rfl,λi p q hp hq=>by rw[hp]at hq;cases hq;exact h p (List.mem_of_getElem? hp)⟩
theorem Rl.Aw{β:aU}{a b:List PV}(h:bq β a b):Rl β (.agg a) (.agg b):=.agg a b h.1 h.2
theorem Rl.SX{β:aU}{a b:List PV}(h:bq β a b):Rl β (.aC a) (.aC b):=.aC a b h.1 h.2
theorem Rl.cl{β:aU}{v:Value}(h:NI v=true):Rl β (.raw v) (.raw v):=.raw v v (.cl v h)
theorem Rl.UX{β:aU}{p:PV}(h:UX p=true):Rl β p p:=by
 unfold Xv.UX at h
 split at h
 ·exact .cl h
 ·exact .fn _ _ [] [] [] [] (.func _) rfl rfl (by simp) (by simp)
 ·cases h
theorem Rl.Rf{β:aU}{p:PV}(h:Rf p=true):Rl β p p:=by
 unfold Xv.Rf at h
 split at h
 ·exact Rl.Aw (bq.same λp hp=>Rl.UX (List.all_eq_true.1 h p hp))
 ·exact Rl.SX (bq.same λp hp=>Rl.UX (List.all_eq_true.1 h p hp))
 ·exact Rl.UX h
def gA(β:aU)(s:XS)(p:bn):Prop:=(∀t,Rl β (gt s t) (p.σ t))/\s.D=p.D
theorem gA.mono{β γ:aU}(hl:β.le γ){s:XS}{p:bn}(h:gA β s p):gA γ s p:=⟨λt=>(h.1 t).mono hl,h.2⟩
theorem tn(s:XS)(t:Nat)(v:PV):∃s':XS,(∀{γ:Type} (K:XS->γ),pt s t v K=K s')/\s'.D=s.D/\∀t',gt s' t'=if t'=t then v else gt s t':=by
 obtain⟨fr,D⟩:=s
 obtain⟨f,h1,h2⟩:=Tr.oc fr t v
 refine⟨⟨f,D⟩,λK=>h1 _,rfl,λt'=>?_⟩
 show(Option.rec (.aC []) (λv=>v) (f.get t'):PV)=_
 rw[h2]
 by_cases e:t'=t
 ·rw[if_pos e,if_pos e]
 ·rw[if_neg e,if_neg e];rfl
theorem gA.pt{β:aU}{s:XS}{p:bn}(h:gA β s p)(t:Nat){v w:PV}(hv:Rl β v w):∃s':XS,(∀{γ:Type} (K:XS->γ),pt s t v K=K s')/\gA β s' {p with σ:=gS p.σ t w}:=by
 obtain⟨s',h1,h2,h3⟩:=tn s t v
 refine⟨s',h1,λt'=>?_,h2.trans h.2⟩
 rw[h3]
 by_cases e:t'=t
 ·subst e;simpa[gS,Nat.beq_refl]using hv
 ·rw[if_neg e]
  have:Nat.beq t' t=false:=by
   cases hb:Nat.beq t' t with
   |false=>rfl
   |true=>exact absurd (beq_iff.1 hb) e
  simpa[gS,this]using h.1 t'
theorem gA.JW{β:aU}:∀{vs ws:List PV} {s:XS} {p:bn},gA β s p->bq β vs ws->∀(k j:Nat),∃s':XS,(∀{γ:Type} (K:XS->γ),JW vs s k j K=K s')/\gA β s' {p with σ:=xz p.σ k j ws}
 |[],ws,s,p,h,hv,k,j=>by rw[hv.cW];exact⟨s,λK=>rfl,h⟩
 |v::vs,ws,s,p,h,hv,k,j=>by
  obtain⟨w,Xz,rfl,h1,h2⟩:=hv.inv
  obtain⟨s1,e1,r1⟩:=h.pt (gx k j) h1
  obtain⟨s2,e2,r2⟩:=r1.JW h2 k (j+1)
  exact⟨s2,λK=>by
   show Xv.pt s (gx k j) v (λs=>Xv.JW vs s k (j+1) K)=K s2
   rw[e1,e2],r2⟩
theorem gA.MK{β:aU}{s:XS}{p:bn}(h:gA β s p)(k:Nat):∀(n j:Nat),bq β (MK s k n j) (wM p.σ k j n)
 |0,j=>bq.nil β
 |n+1,j=>bq.cons (h.1 _) (gA.MK h k n (j+1))
theorem gA.ev{β:aU}{s:XS}{p:bn}(h:gA β s p)(x:Operand):Rl β (cM s x) (cp true p.σ x):=by
 cases x with
 |tmp t=>exact h.1 t
 |const v=>
  show Rl β (ofX v) (Ma v)
  unfold ofX
  cases hc:Rf (Ma v)with
  |true=>exact Rl.Rf hc
  |false=>exact .au _
 |global g=>exact .au _
 |func f=>exact .fn _ _ [] [] [] [] (.func f) rfl rfl (by simp) (by simp)
theorem gA.fX{β:aU}{s:XS}{p:bn}(h:gA β s p){dst:Option Nat}{w:XW}{v v':PV}(hv:Rl β v v'){s':XS}{w':XW}(hx:fX dst s w v=.ok (s',w')):w'=w/\gA β s' {p with σ:=Hi p.σ dst v'}:=by
 cases dst with
 |none=>
  have:(O.ok (s,w):O (XS×XW))=.ok (s',w'):=hx
  cases this;exact⟨rfl,h⟩
 |some d=>
  obtain⟨s1,e,r⟩:=h.pt d hv
  have:Xv.pt s d v (λs=>(.ok (s,w):O (XS×XW)))=.ok (s',w'):=hx
  rw[e]at this
  cases this;exact⟨rfl,r⟩
end Go.az.Xv
