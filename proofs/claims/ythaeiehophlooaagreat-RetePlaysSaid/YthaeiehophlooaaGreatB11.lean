import Derived.Test.YthaeiehophlooaaGreatB10
open Bool (and_eq_true not_not)
open Go.IntKind (wrap)
open Int (natCast_nonneg toNat)
open List (Perm.refl append_assoc append_inj' append_nil append_of_mem count_cons filter_append filter_cons filter_eq_self flatMap_append flatMap_cons flatten getElem?_eq_getElem getElem_map getElem_mem isEmpty_iff length_append length_cons length_map length_nil length_take map_append map_cons map_nil mem_append mem_filter mem_map mem_singleton nodup_append nodup_cons range sum_cons take take_add_one take_length take_zero)
open Nat (add_assoc le_refl zero_add)
set_option linter.all false
namespace Go.Proofs.YthaeiehophlooaaGreat
open Go.Proofs.Tryz Go.aP Go.RowKit K6
def ak.YH{i g:Type}{e:(i->g->Prop)->i->g->Prop}{r:i}{u:g}(n:Nat)(I:Nat->i->g->Prop)(A:I 0 r u)
  (H:∀(k:Nat) (s:i) (u:g) (next:i->g->Prop),k<n->I k s u->(∀j u',I (k+1) j u'->next j u')->e next s u) (G:∀(s:i) (u:g) (next:i->g->Prop),I n s u->e next s u):ak e r u:=by
 refine⟨λm s w=>∃k,k<=n/\m=n-k/\I k s w,⟨n,0,by omega,rfl,A⟩,?_⟩;rintro m s w ⟨k,J,rfl,y⟩;by_cases h:k<n
 .exact H k s w _ h y λj u' C=>⟨n-(k+1),by omega,k+1,by omega,rfl,C⟩
 .have:k=n:=by omega
  subst this;exact G s w _ y
def Pm{K:List ByteArray}{v:ByteArray}{i:Nat}(g:i<K.length)(h:hasB (K.take i) v=false)(e:aG K[i] v=false):hasB (K.take (i+1)) v=false:=by
 unfold hasB at*
 rw[take_add_one,List.any_append,h,getElem?_eq_getElem g];simp[e]
def TJ(fl:Fl)(K:List ByteArray)(v:ByteArray)(r:K.length<=1000000):Pure prog 88 [.list 1 fl (cr K),pS v] (pB (hasB K v)):=by
 refine av.of (wT.c ?_);refine ak.each (n:=K.length) (by omega) (λi u=>hasB (K.take i) v=false) rfl ?_ ?_
 .intro i u next e g j
  refine ab.t (by simpa using e) ⟨by omega,_,Ib e,_,rfl,ab.mk (λh=>?_) (λh=>j _ (Pm e g h))⟩;have:hasB K v=true:=qX.2 (by rw[<- bM.1 h];exact getElem_mem e);rw[this];rfl
 .intro u next g
  rw[take_length]at g;rw[g];exact ab.f (by simp) rfl
@[reducible] def RU:Option (List ByteArray)->PV
 |none=>.aB [.list 1 .sh [],pB false]
 |some K=>.aB [.list 1 .sh (cr K),pB true]
def vu(K e:List ByteArray):cr (K++e)=cr K++cr e:=by simp[cr]
def Iv{K:List ByteArray}{t:Test}(h:VN t):sb K t=(bif aG t.var ⟨#[]⟩then some K else bif hasB K t.var then some K else bif t.rel != 1 then none else some (K++[t.var])):=by
 unfold sb pZ;cases g:aG t.var ⟨#[]⟩with
 |true=>simp
 |false=>
  have e:(t.rel == 8)=false:=by
   cases e:t.rel == 8 with
   |false=>rfl
   |true=>rw[h (by simpa using e)]at g;cases g
  rw[e,show(t.rel != 1)= !(t.rel == 1)from rfl];cases hasB K t.var<;>cases t.rel == 1<;>simp
def FZ{K:List ByteArray}{a b:List Test}:iF K (a++b)=(iF K a).bind λK1=>iF K1 b:=qL K a b
def MB{fl f1 j:Fl}{n i:Nat}{μ g:Mem}(h:mq fl n i μ)(y:∀x∈Ky fl,¬f1.at x)(r:∀b o,μ b=some o->¬f1.at b->g b=some o/\¬j.at b):mq fl n i g/\∀x∈Ky fl,¬j.at x:=by
 cases fl with
 |nM b c=>
  have:=r b _ h (y b (by simp[Ky]));exact⟨this.1,λx e=>by simp[Ky]at e;subst e;exact this.2⟩
 |sh=>exact⟨h,λx e=>by simp[Ky]at e⟩
 |nr=>exact⟨h,λx e=>by simp[Ky]at e⟩
 |nil=>exact⟨h,λx e=>by simp[Ky]at e⟩
def afr(fl:Fl)(c:ae)(K:List ByteArray)(hc:OJ c)(hl:K.length<=10000):Pure prog 87 [.agg c.pv,.list 1 fl (cr K)] (RU (p_ K c)):=by
 obtain⟨_,ha,hv,Ht,Lk,_⟩:=(Bu c).1 hc;rw[ae.de];refine av.of (wR.c ?_);refine aR.Qt (by trivial) (by simp;omega) (by simp;omega) λf1 μ1 t1=>?_;simp only[List.nil_append,length_nil,zero_add,dj]at t1 |-;have go:∀(y:List ByteArray) (f:Fl) (u:Mem),y.length<=10001->mq f y.length 1 u->p_ K c=(iF y c.attr).bind (λK1=>iF K1 c.value)->
   aR true 6 80 .nil [] (c.attr.map Test.pv) u λf26 Ho=>aR false 6 80 f26 (c.attr.map Test.pv) (c.value.map Test.pv) Ho λf29 My=>
   ak (α:=(Fl×Lq)×Int) (λnext e XJ=>
   ab (decide ((e.2:Int)<((List.length (c.attr.map Test.pv++c.value.map Test.pv):Nat):Int)))
   ((0:Int)<=e.2/\∃(r38:List PV),(c.attr.map Test.pv++c.value.map Test.pv)[toNat e.2]?=some r38/\
    ∃(Q:ByteArray),az r38 1 1=some [(pS Q)]/\
    ab (aG Q ⟨#[]⟩)
    (next ((e.1.1,e.1.2),(wrap .i64 (e.2+(1)))) XJ)
    ((0:Int)<=e.2/\∃(r46:List PV),(c.attr.map Test.pv++c.value.map Test.pv)[toNat e.2]?=some r46/\
     ∃(O:ByteArray),az r46 1 1=some [(pS O)]/\
     aa prog 88 [(.list 1 e.1.1 e.1.2),(pS O)] XJ λQB XI=>
     ∃(I:Bool),QB=(pB I)/\
     ab I
     (next ((e.1.1,e.1.2),(wrap .i64 (e.2+(1)))) XI)
     ((0:Int)<=e.2/\∃(Y:List PV),(c.attr.map Test.pv++c.value.map Test.pv)[toNat e.2]?=some Y/\
      ∃(H:Int),az Y 0 1=some [(pI H)]/\
      ab ((H:Int) != (1))
      (wk (.aB [(.list 1 .nil []),(pB false)])=RU (p_ K c))
      ((0:Int)<=e.2/\∃(U:List PV),(c.attr.map Test.pv++c.value.map Test.pv)[toNat e.2]?=some U/\
       ∃(C:ByteArray),az U 1 1=some [(pS C)]/\
       aR false 1 16 e.1.1 e.1.2 [[(pS C)]] XI λf64 U_=>
       next ((f64,(e.1.2++[[(pS C)]])),(wrap .i64 (e.2+(1)))) U_))))
   (wk (.aB [(.list 1 e.1.1 e.1.2),(pB true)])=RU (p_ K c))) ((f,cr y),(0)) My:=by
  intro y f u hK0 tf hm;rw[<- FZ]at hm;refine aR.go (by trivial) (by simp;omega) (by simp;omega) (λf26 u4 t26 k26=>?_);obtain⟨tf4,d4⟩:=MB (f1:=.nil) tf (λx _ h=>h) k26;refine aR.go (by simpa using t26) (by simp;omega) (by simp;omega) λf29 u5 t29 k29=>?_;obtain⟨tf5,d5⟩:=MB tf4 d4 k29;rw[<- map_append];have hlen:(c.attr++c.value).length<=8:=by rw[length_append];omega
  have aJ:∀t∈c.attr++c.value,VN t:=λt ht=>(mem_append.1 ht).elim (Ht t) (Lk t);refine ak.cX (n:=(c.attr++c.value).length) (by omega) (λi x u=>∃r,x.2=cr r/\mq x.1 r.length 1 u/\iF y ((c.attr++c.value).take i)=some r/\r.length<=y.length+i) ⟨y,rfl,tf5,by simp[iF],by omega⟩ ?_ ?_
  .rintro i ⟨f,_⟩ u next A ⟨r,rfl,i1,i2,i3⟩ au
   have G:=xW A i2;rw[Iv (aJ _ (getElem_mem A))]at G;refine ab.t (decide_eq_true (by rw[length_map];omega)) ⟨by omega,_,aA A,_,rfl,ab.mk (λg=>au _ _ ⟨r,rfl,i1,by rw[G,g];rfl,by omega⟩) (λg=>⟨by omega,_,aA A,_,rfl,?_⟩)⟩;refine(TJ f r _ (by omega)).call ⟨_,rfl,ab.mk (λj=>au _ _ ⟨r,rfl,i1,by rw[G,g,j];rfl,by omega⟩) (λj=>⟨by omega,_,aA A,_,rfl,ab.mk (λh3=>?_) (λh3=>⟨by omega,_,aA A,_,rfl,?_⟩)⟩)⟩
   .rw[g,j,h3]at G;have hn:iF y (c.attr++c.value)=none:=En A i2 (by rw[Iv (aJ _ (getElem_mem A)),g,j,h3];rfl);rw[hm,hn];rfl
   .rw[g,j,h3]at G;refine aR.Qt (by rw[dj];exact i1) (by simp;omega) (by simp;omega) λf' u' t'=>au _ _ ⟨r++[(c.attr++c.value)[i].var],?_,?_,G,by rw[length_append,List.length_singleton];omega⟩
    .rw[vu];rfl
    .simpa using t'
  .rintro⟨f,_⟩ u next ⟨r,rfl,i1,i2,i3⟩
   rw[take_length]at i2;refine ab.f (by rw[length_map];simp) ?_;rw[hm,i2];rfl
 refine cg.of λJ hJ=>(TJ f1 K c.id (by omega)).call ⟨_,rfl,ab.mk (λg=>ab.mk (λj=>?_) (λj=>?_)) (λg=>?_)⟩
 .have g:=nb g;have j:=nb j;have:p_ K c=none:=by simp[p_,g,j]
  rw[this];rfl
 .have g:=nb g;have j:=nt j;refine aR.Qt (by rw[dj];exact t1) (by simp;omega) (by simp;omega) λf2 μ2 t2=>hJ _ _ ?_
  have:=go (K++[c.id]) f2 μ2 (by simp;omega) (by simpa using t2) (by
   have hh:hasB (K++[c.id]) c.id=true:=qX.2 (by simp)
   simp[p_,j,pZ,g,hh])
  rw[vu]at this;exact this
 .have g:=nt g;refine hJ _ _ (go K f1 _ (by omega) t1 ?_);cases hg:c.goal<;>simp[p_,hg,pZ,g]
@[reducible] def ZU:Except Nat (List ByteArray)->PV
 | .error e=>.aB [.list 1 .sh [],pI (e:Nat),pB false]
 | .ok K=>.aB [.list 1 .sh (cr K),pI (-1),pB true]
def Iw{K e:List ByteArray}{c:ae}(hc:OJ c)(h:p_ K c=some e):e.length<=K.length+9:=by
 obtain⟨_,ha,O,_,_,_⟩:=(Bu c).1 hc;have G:∀{K e:List ByteArray} {t:Test},sb K t=some e->e.length<=K.length+1:=by
  intro K e t h;unfold sb at h;have:=vH K t.var;cases g:(t.rel == 8)||aG t.var ⟨#[]⟩<;>rw[g]at h
  .simp only[cond_false]at h;cases J:t.rel == 1<;>rw[J]at h
   .simp only[cond_false]at h;cases I:hasB K t.var<;>rw[I]at h
    .cases h
    .cases h;omega
   .cases h;rw[length_append];omega
  .cases h;omega
 have j:∀(i:List Test) {K e:List ByteArray},iF K i=some e->e.length<=K.length+i.length:=by
  intro i;induction i with
  |nil=>intro K e h;cases h;simp
  |cons t i y=>
   intro K e h;simp only[iF]at h;cases g:sb K t with
   |none=>rw[g]at h;cases h
   |some K1=>
    rw[g]at h;have:=y h;have:=G g;rw[length_cons];omega
 unfold p_ at h;have C:(bif c.goal then K++pZ K c.id else K).length<=K.length+1:=by
  have:=vH K c.id;cases c.goal
  .simp
  .rw[cond_true,length_append];omega
 generalize H:(bif c.goal then K++pZ K c.id else K)=r at h C;simp only at h;cases A:hasB r c.id<;>rw[A]at h
 .cases h
 .simp only[cond_true]at h;cases g:iF r c.attr with
  |none=>rw[g]at h;cases h
  |some K1=>
   rw[g]at h;have:=j _ g;have:=j _ (show iF K1 c.value=some e from h);omega
def Et:∀{l:List ae} {n:Nat} {K g:List ByteArray},Qh l->eE l n K=.ok g->g.length<=K.length+9*ah l
 |[],n,K,g,_,h=>by cases h;simp
 |c::l,n,K,g,i,h=>by
  simp only[eE]at h
  cases hc:vQ c n K with
  |error e=>rw[hc]at h;cases h
  |ok K1=>
   rw[hc]at h
   have G:=Et i.2 h
   have C:K1.length<=K.length+9:=by
    rw[BL]at hc;cases y:c.kind == 3<;>rw[y]at hc
    .simp only[cond_false]at hc;cases hm:p_ K c with
     |none=>rw[hm]at hc;cases hc
     |some A=>
      rw[hm]at hc;have:=Iw i.1 hm;cases r:c.kind == 1<;>rw[r]at hc<;>cases hc
      .simp
      .exact this
    .simp only[cond_true]at hc;cases j:eE c.conds (n+1) K with
     |error e=>rw[j]at hc;cases hc
     |ok A=>rw[j]at hc;cases hc;omega
   simp only[ah,bN];omega
def abe:∀(n:Nat) (fl fk:Fl) (l:List ae) (at_:Nat) (K:List ByteArray),ah l<=n->Qh l->K.length<=9*at_->at_+ah l<=1000->Pure prog 36 [.list 7 fl (l.map ae.pv),pI (at_:Nat),.list 1 fk (cr K)] (ZU (eE l at_ K)):=by
 intro n;induction n with
 |zero=>
  intro fl fk l at_ K h _ _ _;have:l=[]:=by
   cases l with
   |nil=>rfl
   |cons c l=>simp[ah,bN]at h
  subst this;refine av.of (kV.c ?_);exact ak.YH 0 (λk s u=>s=((at_:Int),(fk,cr K),(0:Int))) rfl (λk s u next hk=>by omega) (λs u next hs=>by subst hs;exact ab.f (by simp) rfl)
 |succ n ih=>
  intro fl fk l at_ K h aai hK fK;have se:=cz l;refine av.of (kV.c ?_);refine ak.YH l.length (λi s u=>∃f g,s=(((at_+ah (l.take i):Nat):Int),(f,cr g),(i:Int))/\eE (l.take i) at_ K=.ok g/\g.length<=9*(at_+ah (l.take i))) ⟨fk,K,by simp[ah],by simp[eE],by simp[ah];omega⟩ ?_ ?_
  .rintro i _ u next j ⟨f,g,rfl,C,i2⟩ au
   have hm:=di (getElem_mem j);have hs:=iw l (i+1);have Y:=dw j;rw[Y]at hs;have eH:=MY.1 aai l[i] (getElem_mem j);obtain⟨Nm,_,_,_,_,Sw⟩:=(Bu _).1 eH;have hT:=tQ j C;have A:=BL l[i] (at_+ah (l.take i)) g;have Gl:az l[i].pv 0 1=some [pI l[i].kind]:=by rw[ae.de];rfl
   have Q:az l[i].pv 6 1=some [.list 7 .sh (l[i].conds.map ae.pv)]:=by rw[ae.de];rfl
   have eh:az l[i].pv 0 7=some [pI l[i].kind,pB l[i].goal,pS l[i].id,.list 6 .sh (l[i].attr.map Test.pv),.list 6 .sh (l[i].value.map Test.pv),pB l[i].acc,.list 7 .sh (l[i].conds.map ae.pv)]:=by rw[ae.de];rfl
   refine ab.t (by simpa using j) ?_;have SX:wrap .i64 (((at_+ah (l.take i):Nat):Int)+1)=((at_+ah (l.take i)+1:Nat):Int):=by rw[aD (by omega) (by omega)];omega
   have go:∀(f:Fl) (r:List ByteArray) (u':Mem),vQ l[i] (at_+ah (l.take i)) g=.ok r->r.length<=9*(at_+ah (l.take (i+1)))->
     ((0:Int)<=(i:Int)/\∃(I:List PV),(l.map ae.pv)[toNat (i:Int)]?=some I/\∃(acp:Fl) (H:Lq),az I 6 1=some [(.list 7 acp H)]/\
      aa prog 37 [(.list 7 acp H)] u' λZa Ho=>∃(G:Int),Za=(pI G)/\next ((wrap .i64 (((at_+ah (l.take i):Nat):Int)+(wrap .i64 ((1)+G)))),(f,cr r),(wrap .i64 ((i:Int)+(1)))) Ho):=by
    intro f r u' hk O;refine⟨by omega,_,aA j,_,_,Q,(rj _ .sh l[i].conds (le_refl _) (by omega)).call ⟨_,rfl,au _ _ ⟨f,r,?_,by rw[hT,hk],O⟩⟩⟩;rw[aD (x:=(1:Int)+_) (by omega) (by omega),aD (x:=((at_+ah (l.take i):Nat):Int)+_) (by omega) (by omega),aD (x:=(i:Int)+1) (by omega) (by omega),Y];congr 1;omega
   refine cg.of λJ hJ=>⟨natCast_nonneg i,_,aA j,_,Gl,ab.mk (λU=>?_) (λU=>?_)⟩
   .rw[U]at A;refine⟨natCast_nonneg i,_,aA j,_,_,Q,?_⟩;dsimp only;rw[SX];refine(ih .sh f l[i].conds (at_+ah (l.take i)+1) g (by omega) Sw (by omega) (by omega)).call ?_;cases y:eE l[i].conds (at_+ah (l.take i)+1) g with
    |error e=>
     refine⟨_,_,_,_,rfl,ab.t rfl ?_⟩;rw[lX j C (e:=e) (by rw[A,y];rfl)];rfl
    |ok r=>
     refine⟨_,_,_,_,rfl,ab.f rfl (hJ _ _ (go f g _ (by rw[A,y];rfl) ?_))⟩;rw[Y];omega
   .rw[U]at A;have nu:l[i].conds.length=0:=by
     rcases Nm with h|h
     .rw[h]at U;simp at U
     .exact h.2
    have lF:PV.agg [pI l[i].kind,pB l[i].goal,pS l[i].id,.list 6 .sh (l[i].attr.map Test.pv),.list 6 .sh (l[i].value.map Test.pv),pB l[i].acc,.list 7 .sh (l[i].conds.map ae.pv)]=.agg l[i].pv:=by rw[ae.de]
    refine⟨natCast_nonneg i,_,aA j,_,_,_,_,_,_,_,_,_,_,eh,?_⟩;rw[lF];refine(afr f l[i] g eH (by omega)).call ?_;cases y:p_ g l[i]with
    |none=>
     refine⟨_,_,_,rfl,ab.t rfl ?_⟩;rw[lX j C (e:=at_+ah (l.take i)) (by rw[A,y];rfl)];rfl
    |some r=>
     have n_:=Iw eH y;refine⟨_,_,_,rfl,ab.f rfl ⟨natCast_nonneg i,_,aA j,_,Gl,ab.mk (λh1=>hJ _ _ (go _ r _ ?_ ?_)) (λh1=>hJ _ _ (go f g _ ?_ ?_))⟩⟩
     .rw[A,y,h1];rfl
     .rw[Y];omega
     .rw[A,y,h1];rfl
     .rw[Y];omega
  .rintro _ u next ⟨f,g,rfl,C,i2⟩
   rw[take_length]at C;refine ab.f (by simp) ?_;rw[C];rfl
def TH(fl:Fl)(a:Atom)(K:List ByteArray)(e:K.length<=1000000):Pure prog 38 [.agg a.pv,.list 1 fl (cr K)] (pB (!nX K a)):=by
 refine av.of (uK.c ?_);refine ab.mk (λh=>?_) (λh=>(TJ fl K a.var e).call ⟨_,rfl,?_⟩)
 .have:nX K a=false:=by unfold nX;rw[h];rfl
  rw[this];rfl
 .have:nX K a= !hasB K a.var:=by unfold nX;rw[h];rfl
  rw[this,not_not];rfl
def Xh(fc fa:Fl)(p:Prod)(j:bO p.conds)(Q:ah p.conds<=1000000)(ha:p.bd.length<=1000000):Pure prog 8 [FK fc fa p] (.aB [pI (b_ p).1,pI (b_ p).2.1]):=by
 refine av.of (sy.c ?_);refine(PE .sh .sh p j Q ha).call ⟨_,_,rfl,ab.mk (λy=>?_) (λy=>?_)⟩
 .unfold b_;rw[y];rfl
 have h0:(da p).2=0:=by simpa using y
 obtain⟨O,s2,s3,s4,U⟩:=xK h0;cases hc:p.conds with
 |nil=>rw[hc]at O;simp[ah]at O
 |cons c cs=>
 refine⟨by omega,c.pv,rfl,_,by rw[ae.de];rfl,ab.mk (λJ=>?_) (λJ=>?_)⟩
 .unfold b_;rw[y,hc];simp only[cond_false,List.head?_cons,Option.map_some,Option.getD_some,J,cond_true];rfl
 have I:b_ p=match eE p.conds 0 []with
   | .error n=>((n:Int),6,[])
   | .ok K=>match iq K 0 p.bd with
     |some i=>(((ah p.conds+i:Nat):Int),6,[])
     |none=>(-1,0,K):=by
  unfold b_;rw[y];simp only[cond_false];rw[show(p.conds.head?.map ae.kind).getD 0=c.kind by rw[hc];rfl,J];rfl
 rw[<- hc];refine(abe _ fc .nil p.conds 0 [] (le_refl _) U (by simp) (by omega)).call ?_;cases G:eE p.conds 0 []with
 |error e=>
  refine⟨_,_,_,_,rfl,ab.t rfl ?_⟩;rw[I,G];rfl
 |ok K=>
  have hKl:K.length<=1000:=by have:=Et U G;simp at this;omega
  refine⟨_,_,_,_,rfl,ab.f rfl ((rj _ fc p.conds (le_refl _) Q).call ⟨_,rfl,?_⟩)⟩;refine ak.each (n:=p.bd.length) (by omega) (λi u=>iq K 0 (p.bd.take i)=none) rfl ?_ ?_
  .rintro i u next H r au
   have Y:=zu H r;refine ab.t (by simpa using H) ⟨by omega,_,aA H,_,_,_,_,_,_,_,_,_,_,_,_,_,_,_,_,_,_,_,rfl,?_⟩;have CV:iO K p.bd[i]=true->wk (.aB [pI (wrap .i64 (((ah p.conds:Nat):Int)+(i:Int))),pI 6])=.aB [pI (b_ p).1,pI (b_ p).2.1]:=λj=>by
    rw[I,G];simp only[Ce H r j,zero_add];rw[aD (by omega) (by omega)];rfl
   have FY:iO K p.bd[i]=false->next (wrap .i64 ((i:Int)+1)) u:=λj=>au _ (by rw[Y,j];rfl)
   refine(TH .sh p.bd[i].attr K (by omega)).call ⟨_,rfl,ab.mk (λg=>?_) (λg=>?_)⟩
   .rw[not_not]at g;exact CV (by unfold iO;rw[g];rfl)
   rw[not_not]at g;refine ab.mk (λC=>?_) (λC=>FY (by unfold iO;rw[g,C];rfl));refine(TH .sh p.bd[i].value.a K (by omega)).call ⟨_,rfl,ab.mk (λh=>?_) (λh=>?_)⟩
   .rw[not_not]at h;exact CV (by unfold iO;rw[g,C,h];rfl)
   rw[not_not]at h;refine(TH .sh p.bd[i].value.b K (by omega)).call ⟨_,rfl,ab.mk (λA=>?_) (λA=>?_)⟩
   .rw[not_not]at A;exact CV (by unfold iO;rw[g,C,h,A];rfl)
   .rw[not_not]at A;exact FY (by unfold iO;rw[g,C,h,A];rfl)
  .rintro u next r
   rw[take_length]at r;refine ab.f (by simp) ?_;rw[I,G];simp only[r];rfl
def ES{p:Prod}(h:(b_ p).2.1=0):(da p).2=0/\eE p.conds 0 []=.ok (b_ p).2.2:=by
 unfold b_ at h |-;cases g:(da p).2 != 0<;>rw[g]at h
 .have A:(da p).2=0:=by simpa using g
  refine⟨A,?_⟩;simp only[cond_false]at h |-;cases y:(p.conds.head?.map ae.kind).getD 0 != 1<;>rw[y]at h
  .simp only[cond_false]at h |-;cases j:eE p.conds 0 []with
   |error e=>rw[j]at h;simp at h
   |ok K=>
    rw[j]at h;simp only at h |-;cases r:iq K 0 p.bd with
    |some i=>rw[r]at h;simp at h
    |none=>rfl
  .simp at h
 .simp only[cond_true]at h;simp[h]at g
def aa5(f:Fl)(l:List ae)(g:ah l<=1000000):Pure prog 181 [.list 7 f (l.map ae.pv)] (pI (ah l:Nat)):=by
 refine av.of (Hj.c ?_);refine aa.mono (TA (.func 228) [] [] trivial (λ_ _=>True) (λ_=>False) _ f l 0 0 0 _ (le_refl _) (by omega) (by omega) trivial λk x μ e _=>?_) ?_
 .show aa _ _ _ _ _;rw[ae.de];exact CG.c (.inl ⟨rfl,trivial⟩)
 .rintro v μ (⟨rfl,_⟩|⟨x,_,h⟩)
  .refine⟨_,_,rfl,?_⟩;rw[zero_add];rfl
  .exact h.elim
def vF(X Y L:List aO){μ:Mem}(h:Ow (X++(Y++L)) μ):Ow (Y++(X++L)) μ:=h.perm (by
 rw[<- append_assoc,<- append_assoc]
 exact List.perm_append_comm.append_right L)
@[reducible] def ada(b:List aP.Bind):List PV:=[.list 4 .sh (b.map Bind.pv)]
def f_(rows:List (List aP.Bind)):Lq:=rows.map ada
mutual
def kG(ms:dq)(aC:List Int):Nat->ae->Prop
 |at_,.mk k g i a v ac cs=>at_<aC.length/\(if k=1\/k=2 then(∀h:at_<aC.length,dO ms aC[at_] (.mk k g i a v ac cs))/\i≠⟨#[]⟩else we ms aC (at_+1) cs)
def we(ms:dq)(aC:List Int):Nat->List ae->Prop
 |_,[]=>True
 |at_,c::cs=>kG ms aC at_ c/\we ms aC (at_+aQ c) cs
end
def wg(ms:dq)(aC:List Int)(a:Nat)(c:ae):kG ms aC a c↔a<aC.length/\(if c.kind=1\/c.kind=2 then(∀h:a<aC.length,dO ms aC[a] c)/\c.id≠⟨#[]⟩else we ms aC (a+1) c.conds):=by cases c;rfl
def Jj{ms:dq}{aC:List Int}:∀{l:List ae} {a i:Nat} (e:i<l.length),we ms aC a l->kG ms aC (a+ah (l.take i)) l[i]
 |c::cs,a,0,_,h=>by simpa[ah]using h.1
 |c::cs,a,i+1,e,h=>by
  have:=Jj (l:=cs) (a:=a+aQ c) (i:=i) (by simpa using e) h.2
  simp only[List.take_succ_cons,ah,List.getElem_cons_succ];rw[<- add_assoc];exact this
def QC{cv:Nat->Nat}{a m:Nat}{f:Nat->Nat}(r:f 0=m)(i:∀j,f (j+1)=0):mK cv a (cv a+m)=λj=>cv j+sh a f j:=by
 funext j;unfold mK sh;by_cases e:j=a
 .subst e;rw[if_pos rfl,if_pos (le_refl _),Nat.sub_self,r]
 .rw[if_neg e];by_cases h:a<=j
  .rw[if_pos h];obtain⟨q,g⟩:∃q,j-a=q+1:=⟨j-a-1,by omega⟩;rw[g,i];rfl
  .rw[if_neg h];rfl
mutual
def tE:ae->Prop
 | .mk k g i a v ac cs=>cU (.mk k g i a v ac cs)/\((k=1\/k=2)->i≠⟨#[]⟩)/\tD cs
def tD:List ae->Prop
 |[]=>True
 |c::cs=>tE c/\tD cs
end
def mT(c:ae):tE c↔cU c/\((c.kind=1\/c.kind=2)->c.id≠⟨#[]⟩)/\tD c.conds:=by cases c;rfl
def lQ{l:List ae}:tD l↔∀c∈l,tE c:=by
 induction l with
 |nil=>simp[tD]
 |cons c l e=>simp[tD,e]
def oO{l:List ae}(h:tD l):bO l:=cG.2 λc hc=>((mT c).1 (lQ.1 h c hc)).1
theorem Uj(rows:List (List aP.Bind)){k:Nat}(hk:k<rows.length):(f_ rows)[toNat (k:Int)]?=some (ada rows[k]):=aA hk
theorem DZ(a b:List (List aP.Bind)):f_ (a++b)=f_ a++f_ b:=map_append
theorem iy(a:List (List aP.Bind)):(f_ a).length=a.length:=length_map _
theorem yy{es:List aj}{c:ae}(b:List aP.Bind)(h:c.kind=1\/c.kind=2)(j:Nat):cC es c b (j+1)=0:=by rw[wB,if_pos h]
theorem KJ(a:Nat)(es:List aj)(r:List (List aP.Bind))(j:Nat):sh a (cL es [] r) j=0:=by unfold sh;split<;>rfl
theorem Ud{es:List aj}{c:ae}{b:List aP.Bind}(h:¬(c.kind=1\/c.kind=2))(a j:Nat):sh a (cC es c b) j=(if j=a then(ji es c b).length else 0)+sh (a+1) (cL es c.conds [b]) j:=by
 unfold sh;by_cases e:j=a
 .subst e;rw[if_pos (le_refl _),Nat.sub_self,pe,if_pos rfl,if_neg (by omega)];rfl
 .rw[if_neg e];by_cases h1:a<=j
  .rw[if_pos h1,if_pos (by omega)];obtain⟨q,hq⟩:∃q,j-a=q+1:=⟨j-a-1,by omega⟩;rw[hq,wB,if_neg h,show j-(a+1)=q from by omega];omega
  .rw[if_neg h1,if_neg (by omega)]
theorem HN{es:List aj}{c:ae}{rows:List (List aP.Bind)}{k:Nat}(hk:k<rows.length)(a j:Nat):sh a (dz es c (rows.take (k+1))) j=sh a (dz es c (rows.take k)) j+sh a (cC es c rows[k]) j:=by
 rw[<- KK];exact vo (λq=>Og es c hk q) j
def Cc{e g:Type}{f:e->List g}{l:List e}{k:Nat}(h:k<l.length):(l.take (k+1)).flatMap f=(l.take k).flatMap f++f l[k]:=by
 rw[take_add_one,getElem?_eq_getElem h,flatMap_append];simp
section
variable {w:Nat} {W:WC} {x:NC} {es:List aj} {ms:dq} {ids:pq}
def FN{U Q r j:Nat}{G:Nat->Nat}{I:PV}{B:aO}{L:List aO}{u:Mem}{R:Kq}
  (h:Ow (Pt w 226 W.pv::eP W G::an W.n x es ms ids::B::Pt j 4 [pB false]::Pt r 234 [.list 1 .nil []]::Pt Q 3 [I]::Pt U 224 [pP w 0]::L) u)
  (J:∀e,Ow (Pt w 226 W.pv::eP W G::an W.n x es ms ids::L) e->R (.aB [.list 1 .nil [],pB false]) e):
  stM r 0 [(.list 1 .nil [])] u λY=>stM j 0 [(pB false)] Y λy=>∃(g:Fl) (C:Lq),ay y r 0 1=some [(.list 1 g C)]/\∃(A:Bool),ay y j 0 1=some [(pB A)]/\R (.aB [(.list 1 g C),(pB A)]) y:=by
 refine h.st 5 rfl (by simp) λu1 O=>O.st 4 rfl (by simp) λH i=>?_;refine⟨_,_,i.rd 5 rfl (by simp[du]),_,i.rd 4 rfl (by simp[du]),?_⟩;exact J H (i.tail λ_ h=>h.tail λ_ h=>h.tail λ_ h=>h.drop.drop.drop.drop.drop)
theorem cOn(hA:dE es ms)(hI:jn es ids)(hT:0<=x.T/\x.T<=1000000)(hN:W.aC.length=W.N):∀(n:Nat) (l:List ae) (f fl:Fl) (b:List aP.Bind) (a:Nat) (cv:Nat->Nat) {L:List aO} {μ:Mem},ah l<=n->tD l->we ms W.aC a l->a+ah l<=1000->(∀j,((cv j:Nat):Int)<=x.T)->b.length+100*ah l<=900000->
  Ow (Pt w 226 W.pv::eP W cv::an W.n x es ms ids::L) μ->∀{K:Kq},
  ((∀j,((cv j+sh a (cL es l [b]) j:Nat):Int)<=x.T)->∀f μ',Ow (Pt w 226 W.pv::eP W (λj=>cv j+sh a (cL es l [b]) j)::an W.n x es ms ids::L) μ'->K (.aB [.list 1 f (f_ (jQ es l [b])),pB true]) μ')->
  ((∃j,x.T<((cv j+sh a (cL es l [b]) j:Nat):Int))->∀qa μ',Ow (Pt w 226 W.pv::eP W qa::an W.n x es ms ids::L) μ'->K (.aB [.list 1 .nil [],pB false]) μ')->
  aa prog 118 [pP w 0,.list 7 f (l.map ae.pv),.list 4 fl (b.map Bind.pv),pI ((a:Nat):Int)] μ K:=by
 intro n;induction n using Nat.strongRecOn with
 |ind n ih=>
 intro l f fl b a cv L μ hs aJ tY ha hcv hb hO K h1 h0;have se:=cz l;have Lr:=oO aJ;obtain⟨hT0,hT1⟩:=hT;refine CI.c λb4 Pl b7 IZ b8 Pk b9 hb9=>?_;have O1:=(((hO.new 224 [pP w 0] Pl).new 3 [pI ((a:Nat):Int)] IZ).new 234 [.list 1 .nil []] Pk).new 4 [pB false] hb9;have O2:=vF [Pt b9 4 [pB false],Pt b8 234 [.list 1 .nil []],Pt b7 3 [pI ((a:Nat):Int)],Pt b4 224 [pP w 0]] [Pt w 226 W.pv,eP W cv,an W.n x es ms ids] L O1;refine ak.cX (n:=l.length) (by omega) (λi s u=>s.2=f_ (jQ es (l.take i) [b])/\(jQ es (l.take i) [b]).length<=1000001/\(∀j,((cv j+sh a (cL es (l.take i) [b]) j:Nat):Int)<=x.T)/\Ow (Pt w 226 W.pv::eP W (λj=>cv j+sh a (cL es (l.take i) [b]) j)::an W.n x es ms ids::Pt b9 4 [pB false]::Pt b8 234 [.list 1 .nil []]::Pt b7 3 [pI ((a+ah (l.take i):Nat):Int)]::Pt b4 224 [pP w 0]::L) u) ⟨rfl,by simp[jQ],λj=>?_,?_⟩ ?_ ?_
 .rw[take_zero,KJ];exact hcv j
 .have e:(λj=>cv j+sh a (cL es (l.take 0) [b]) j)=cv:=by funext j;rw[take_zero,KJ];rfl
  rw[e];exact O2
 .rintro i ⟨fr,_⟩ u next hi ⟨rfl,hRl,hC,xy⟩ au
  dsimp only;refine ab.t (by simpa using hi) ⟨by omega,_,aA hi,_,_,_,_,_,_,_,_,_,_,jT _,λnv yj=>?_⟩;generalize hRi:jQ es (l.take i) [b]=Ri at*
  generalize hai:a+ah (l.take i)=ai at*
  generalize hCi:(λj=>cv j+sh a (cL es (l.take i) [b]) j)=Ci at*
  have ae8:∀j,cv j+sh a (cL es (l.take i) [b]) j=Ci j:=λj=>by rw[<- hCi]
  simp only[ae8]at hC;have hc:tE l[i]:=lQ.1 aJ _ (getElem_mem hi);have hfc:kG ms W.aC ai l[i]:=by rw[<- hai];exact Jj hi tY
  have fK:ai+aQ l[i]<=a+ah l:=by
   have h1:=mQ hi;have h2:=gV l (i+1);omega
  have adY:aQ l[i]=1+ah l[i].conds:=bN _;obtain⟨ij,SR,Nr⟩:=(mT _).1 hc;obtain⟨Lw,Gn⟩:=(wg ms W.aC ai l[i]).1 hfc;have hRb:∀r∈Ri,r.length<=b.length+100*ah (l.take i):=by
   rw[<- hRi];refine MX (cG.2 λd hd=>cG.1 Lr d (List.mem_of_mem_take hd)) λr hr=>?_;simp only[mem_singleton]at hr;subst hr;exact le_refl _
  have fF:ah (l.take i)<=ah l:=gV l i;have aex:jQ es (l.take (i+1)) [b]=Ri.flatMap λr=>ji es l[i] r:=by rw[RE es hi,hRi]
  have SP:∀j,cv j+sh a (cL es (l.take (i+1)) [b]) j=Ci j+sh ai (dz es l[i] Ri) j:=λj=>by
   rw[<- ae8 j,show sh a (cL es (l.take (i+1)) [b]) j=sh a (cL es (l.take i) [b]) j+sh ai (dz es l[i] Ri) j from ?_]
   .omega
   .rw[vo (λq=>Ax es hi [b] q),KK,XN,hai,hRi]
  have aeC:∀j k,Ci j+sh ai (dz es l[i] (Ri.take k)) j<=cv j+sh a (cL es l [b]) j:=λj k=>by
   have h2:sh ai (dz es l[i] (Ri.take k)) j<=sh ai (dz es l[i] Ri) j:=XO (λq=>Vn es l[i] Ri k q) j;have h3:sh a (cL es (l.take (i+1)) [b]) j<=sh a (cL es l [b]) j:=XO (λq=>afx es l (i+1) [b] q) j;have h4:=SP j;omega
  have O4:=vF [kB nv 234 1 []] [Pt w 226 W.pv,eP W Ci,an W.n x es ms ids] _ (kB.new (xy.new 234 [.list 1 .nil []] yj));refine ak.each (n:=Ri.length) (by omega) (λk u=>(∀j,((Ci j+sh ai (dz es l[i] (Ri.take k)) j:Nat):Int)<=x.T)/\Ow (Pt w 226 W.pv::eP W (λj=>Ci j+sh ai (dz es l[i] (Ri.take k)) j)::an W.n x es ms ids::kB nv 234 1 (f_ ((Ri.take k).flatMap λr=>ji es l[i] r))::Pt b9 4 [pB false]::Pt b8 234 [.list 1 .nil []]::Pt b7 3 [pI ((ai:Nat):Int)]::Pt b4 224 [pP w 0]::L) u) ⟨λj=>?_,?_⟩ ?_ ?_
  .have:sh ai (dz es l[i] (Ri.take 0)) j=0:=by unfold sh;split<;>rfl
   rw[this];exact hC j
  .have e:(λj=>Ci j+sh ai (dz es l[i] (Ri.take 0)) j)=Ci:=by
    funext j;have:sh ai (dz es l[i] (Ri.take 0)) j=0:=by unfold sh;split<;>rfl
    rw[this];rfl
   rw[e];exact O4
  .intro k u1 jr hk ⟨hD,yl⟩ iT;have hbk:=hRb _ (getElem_mem hk);generalize hDf:(λj=>Ci j+sh ai (dz es l[i] (Ri.take k)) j)=D at yl;have Pn:∀j,Ci j+sh ai (dz es l[i] (Ri.take k)) j=D j:=λj=>by rw[<- hDf]
   simp only[Pn]at hD;have hFl:((((Ri.take k).flatMap λr=>ji es l[i] r).length:Nat):Int)<=x.T:=by
    have h2:=hD ai;rw[<- Pn ai,HW,xH]at h2;omega
   have eh:∀u',(∀j,((D j+sh ai (cC es l[i] Ri[k]) j:Nat):Int)<=x.T)->Ow (Pt w 226 W.pv::eP W (λj=>D j+sh ai (cC es l[i] Ri[k]) j)::an W.n x es ms ids::kB nv 234 1 (f_ ((Ri.take k).flatMap λr=>ji es l[i] r)++f_ (ji es l[i] Ri[k]))::Pt b9 4 [pB false]::Pt b8 234 [.list 1 .nil []]::Pt b7 3 [pI ((ai:Nat):Int)]::Pt b4 224 [pP w 0]::L) u'->jr (wrap .i64 ((k:Int)+1)) u':=λu' h2 h3=>by
    have e:(λj=>D j+sh ai (cC es l[i] Ri[k]) j)=λj=>Ci j+sh ai (dz es l[i] (Ri.take (k+1))) j:=by
     funext j;rw[HN hk,<- Pn j];omega
    refine iT u' ⟨λj=>?_,?_⟩
    .rw[<- congrFun e j];exact h2 j
    .rw[<- e,Cc hk,DZ];exact h3
   have BW:(∃q,x.T<((D q+sh ai (cC es l[i] Ri[k]) q:Nat):Int))->∀qa μ',Ow (Pt w 226 W.pv::eP W qa::an W.n x es ms ids::L) μ'->K (.aB [.list 1 .nil [],pB false]) μ':=λ⟨q,hq⟩=>h0 ⟨q,by
    have h2:=aeC q (k+1)
    rw[HN hk]at h2
    have h3:=Pn q
    omega⟩
   refine ab.t (by simpa[f_]using hk) ⟨by omega,_,Uj Ri hk,_,_,rfl,?_⟩;refine ab.mk (λjJ=>?_) (λjJ=>ab.mk (λdY=>?_) (λdY=>?_))
   .have qW:l[i].kind=1:=by simpa using jJ
    rw[if_pos (.inl qW)]at Gn;have hco:CS l[i]:=⟨ij,SR (.inl qW)⟩;refine⟨_,yl.rd 7 rfl (by simp),_,yl.rd 0 rfl (by simp),_,yl.rd 7 rfl (by simp),_,_,yl.rd 0 rfl (by simp),_,yl.rd 6 rfl (by simp),by omega,_,tK Lw,_,rfl,?_⟩;refine GI (an.xt (x:=x) (es:=es) (ms:=ms) (ids:=ids) yl (by simp)) l[i] _ _ _ _ Ri[k] (by omega) W.aC[ai] ?_;obtain⟨fe,ga,gb,hf⟩:=xF W.n x.al W.aC[ai] (gz Ri[k] l[i].id);rw[hf];refine⟨_,_,_,rfl,?_⟩;rw[Mem.pK];refine(TF fe ga gb l[i] _ _ _ _ Ri[k] (by omega)).call ⟨_,_,_,rfl,?_⟩;have xw:ji es l[i] Ri[k]=(aY l[i] Ri[k] es).map (·.2):=by rw[mc,if_pos qW]
    have IY:cC es l[i] Ri[k] 0=(aY l[i] Ri[k] es).length:=by rw[pe,xw,length_map]
    have nu:∀j,cC es l[i] Ri[k] (j+1)=0:=λj=>yy _ (.inl qW) j;refine bk.own (xR hA hI hco (Gn.1 Lw) (by omega) hf) (Ow.at 2 rfl yl)
     (λm u=>(((D ai+m:Nat):Int)<=x.T)/\Ow (Pt w 226 W.pv::eP W (mK D ai (D ai+m))::an W.n x es ms ids::kB nv 234 1 (f_ ((Ri.take k).flatMap λr=>ji es l[i] r)++f_ (((aY l[i] Ri[k] es).take m).map (·.2)))::Pt b9 4 [pB false]::Pt b8 234 [.list 1 .nil []]::Pt b7 3 [pI ((ai:Nat):Int)]::Pt b4 224 [pP w 0]::L) u)
     (λcd u=>cd=.ret/\(∃q,x.T<((D q+sh ai (cC es l[i] Ri[k]) q:Nat):Int))/\∃qa rs,Ow (Pt w 226 W.pv::eP W qa::an W.n x es ms ids::kB nv 234 1 rs::Pt b9 4 [pB false]::Pt b8 234 [.list 1 .nil []]::Pt b7 3 [pI ((ai:Nat):Int)]::Pt b4 224 [pP w 0]::L) u)
     (λm=>eW.and (eW.own _)) (λcd=>eW.and (eW.and (eW.ex λ_=>eW.ex λ_=>eW.own _))) (λμ' h'=>⟨by simpa using hD ai,?_⟩) ?_ ?_ ?_
    .have e:mK D ai (D ai+0)=D:=by funext j;unfold mK;split<;>simp_all
     rw[e];have h'':Ow ([an W.n x es ms ids]++([Pt w 226 W.pv,eP W D]++(kB nv 234 1 (f_ ((Ri.take k).flatMap λr=>ji es l[i] r))::Pt b9 4 [pB false]::Pt b8 234 [.list 1 .nil []]::Pt b7 3 [pI ((ai:Nat):Int)]::Pt b4 224 [pP w 0]::L))) μ':=h';simpa[f_]using vF _ _ _ h''
    .rintro m hm u2 R ⟨hDm,mG⟩ bT iR;have sU:m<(aY l[i] Ri[k] es).length:=by simpa using hm
     rw[getElem_map];refine⟨_,_,_,_,_,_,_,_,_,_,_,_,_,_,rfl,_,mG.rd 7 rfl (by simp),_,mG.rd 6 rfl (by simp),?_⟩;refine wA mG ai (by omega) (by unfold mK;rw[if_pos rfl];omega) λu3 h3=>⟨_,rfl,?_⟩;have eu:mK (mK D ai (D ai+m)) ai (mK D ai (D ai+m) ai+1)=mK D ai (D ai+(m+1)):=by
      funext j;unfold mK;by_cases e:j=ai
      .simp[e];omega
      .simp[e]
     have ev:mK D ai (D ai+m) ai=D ai+m:=by unfold mK;simp
     rw[eu]at h3;rw[ev];refine ab.mk (λcM=>?_) (λDn=>?_)
     .have Sz:x.T<((D ai+m+1:Nat):Int):=by simpa using cM
      refine h3.st 5 rfl (by simp) λu4 h4=>h4.st 4 rfl (by simp) λu5 h5=>iR _ _ ⟨rfl,⟨ai,?_⟩,_,_,h5⟩;rw[HW,IY];omega
     .have IF:((D ai+m+1:Nat):Int)<=x.T:=by simpa using Dn
      have hlen:(f_ ((Ri.take k).flatMap λr=>ji es l[i] r)++f_ (((aY l[i] Ri[k] es).take m).map (·.2))).length<=2000000:=by
       rw[length_append,iy,iy,length_map,length_take];omega
      refine kB.go 3 h3 rfl (by simp only[length_cons,length_nil];omega) (by simp only[length_cons,length_nil];omega) λu4 h4=>bT _ ⟨by omega,?_⟩;have e2:f_ ((Ri.take k).flatMap λr=>ji es l[i] r)++f_ (((aY l[i] Ri[k] es).take (m+1)).map (·.2))=(f_ ((Ri.take k).flatMap λr=>ji es l[i] r)++f_ (((aY l[i] Ri[k] es).take m).map (·.2)))++[[.list 4 .sh ((aY l[i] Ri[k] es)[m].2.map Bind.pv)]]:=by
       rw[eZ sU,DZ,append_assoc];rfl
      rw[e2];exact h4
    .rintro u2 ⟨hDm,mG⟩;rw[length_map]at hDm mG;dsimp only[PK];have e:=QC (cv:=D) (a:=ai) (f:=cC es l[i] Ri[k]) IY nu;refine eh u2 (λj=>?_) ?_
     .rw[<- congrFun e j];unfold mK;split
      .exact hDm
      .exact hD j
     .rw[<- e,xw];rw[take_length]at mG;exact mG
    .rintro cd u2 ⟨rfl,hq,qa,rs,mG⟩;dsimp only[PK];refine⟨_,_,mG.rd 5 rfl (by simp),_,mG.rd 4 rfl (by simp),?_⟩;exact BW hq qa u2 (mG.tail λ_ h=>h.tail λ_ h=>h.tail λ_ h=>h.drop.drop.drop.drop.drop)
   .have Ls:l[i].kind=2:=by simpa using dY
    have qW:¬l[i].kind=1:=by simpa using jJ
    rw[if_pos (.inr Ls)]at Gn;have hco:CS l[i]:=⟨ij,SR (.inr Ls)⟩;have xw:ji es l[i] Ri[k]=if(aY l[i] Ri[k] es).isEmpty then[Ri[k]]else[]:=by rw[mc,if_neg qW,if_pos Ls]
    have nu:∀j,cC es l[i] Ri[k] (j+1)=0:=λj=>yy _ (.inr Ls) j;refine⟨_,yl.rd 7 rfl (by simp),_,yl.rd 6 rfl (by simp),?_⟩;refine aa3 hA hI (yl.tail λ_ h=>h.swap) hco _ _ _ _ (by omega) Lw (Gn.1 Lw) λu2 ae1=>⟨_,rfl,?_⟩;have mG:=ae1.tail λ_ h=>h.swap;clear ae1;refine ab.mk (λki=>?_) (λki=>?_)
    .have hz:(aY l[i] Ri[k] es).isEmpty=false:=nb ki;rw[hz]at xw;simp only[Bool.false_eq_true,if_false]at xw;have hcz:∀j,sh ai (cC es l[i] Ri[k]) j=0:=λj=>by
      unfold sh;split
      .cases j-ai with
       |zero=>rw[pe,xw];rfl
       |succ q=>exact nu q
      .rfl
     have e:(λj=>D j+sh ai (cC es l[i] Ri[k]) j)=D:=by funext j;rw[hcz];rfl
     refine eh u2 (λj=>by rw[hcz];exact hD j) ?_;rw[e,xw];simpa[f_]using mG
    .have hz:(aY l[i] Ri[k] es).isEmpty=true:=nt ki;rw[hz]at xw;simp only[if_true]at xw;have IY:cC es l[i] Ri[k] 0=1:=by rw[pe,xw];rfl
     have e:=QC (cv:=D) (a:=ai) (f:=cC es l[i] Ri[k]) IY nu;have hDa:=hD ai;refine⟨_,mG.rd 7 rfl (by simp),_,mG.rd 6 rfl (by simp),wA mG ai (by omega) (by omega) λu3 h3=>⟨_,rfl,ab.mk (λcM=>?_) (λDn=>?_)⟩⟩
     .have Sz:x.T<((D ai+1:Nat):Int):=by simpa using cM
      exact FN h3 (BW ⟨ai,by rw[HW,IY];exact Sz⟩ _)
     .have IF:((D ai+1:Nat):Int)<=x.T:=by simpa using Dn
      refine kB.go 3 h3 rfl (by rw[iy];simp only[length_cons,length_nil];omega) (by rw[iy];simp only[length_cons,length_nil];omega) λu4 h4=>eh u4 (λj=>?_) ?_
      .rw[<- congrFun e j];unfold mK;split
       .exact IF
       .exact hD j
      .rw[<- e,xw];exact h4
   .have Ls:¬l[i].kind=2:=by simpa using dY
    have qW:¬l[i].kind=1:=by simpa using jJ
    have hk3:¬(l[i].kind=1\/l[i].kind=2):=λh=>h.elim qW Ls;rw[if_neg hk3]at Gn;have xw:ji es l[i] Ri[k]=if(jQ es l[i].conds [Ri[k]]).isEmpty then[Ri[k]]else[]:=by rw[mc,if_neg qW,if_neg Ls]
    have WI:=Ud (es:=es) (b:=Ri[k]) hk3 ai;refine⟨_,yl.rd 7 rfl (by simp),_,yl.rd 6 rfl (by simp),?_⟩;rw[aD (by omega) (by omega),show((ai:Int)+1)=((ai+1:Nat):Int)from by omega];refine ih (ah l[i].conds) (by omega) l[i].conds .sh .sh Ri[k] (ai+1) D (le_refl _) Nr Gn (by omega) hD (by omega) yl (λhE fr2 u2 mG=>⟨_,_,_,rfl,ab.f rfl ?_⟩) (λ⟨q,hq⟩ qa u2 mG=>⟨_,_,_,rfl,ab.t rfl ?_⟩)
    .simp only[iy];refine ab.mk (λki=>?_) (λki=>?_)
     .have aW:0<(jQ es l[i].conds [Ri[k]]).length:=by simpa using ki
      have hz:(jQ es l[i].conds [Ri[k]]).isEmpty=false:=by
       cases hx:jQ es l[i].conds [Ri[k]]with
       |nil=>rw[hx]at aW;simp at aW
       |cons y ys=>rfl
      rw[hz]at xw;simp only[Bool.false_eq_true,if_false]at xw;have e:∀j,sh ai (cC es l[i] Ri[k]) j=sh (ai+1) (cL es l[i].conds [Ri[k]]) j:=λj=>by rw[WI j,xw];simp
      refine eh u2 (λj=>by rw[e j];exact hE j) ?_;rw[show(λj=>D j+sh ai (cC es l[i] Ri[k]) j)=(λj=>D j+sh (ai+1) (cL es l[i].conds [Ri[k]]) j)from funext λj=>by rw[e j],xw];simpa[f_]using mG
     .have aW:(jQ es l[i].conds [Ri[k]]).length=0:=by simpa using ki
      have hz:(jQ es l[i].conds [Ri[k]]).isEmpty=true:=by rw[isEmpty_iff];exact List.eq_nil_of_length_eq_zero aW
      rw[hz]at xw;simp only[if_true]at xw;have hEa:sh (ai+1) (cL es l[i].conds [Ri[k]]) ai=0:=by unfold sh;rw[if_neg (by omega)]
      have ajk:=hE ai;rw[hEa]at ajk;have e:mK (λj=>D j+sh (ai+1) (cL es l[i].conds [Ri[k]]) j) ai ((D ai+sh (ai+1) (cL es l[i].conds [Ri[k]]) ai)+1)=λj=>D j+sh ai (cC es l[i] Ri[k]) j:=by
       funext j;rw[WI j,xw];unfold mK;by_cases e:j=ai
       .subst e;rw[if_pos rfl,if_pos rfl,hEa];rfl
       .rw[if_neg e,if_neg e];dsimp only;omega
      refine⟨_,mG.rd 7 rfl (by simp),_,mG.rd 6 rfl (by simp),wA mG ai (by omega) (by rw[hEa];omega) λu3 h3=>⟨_,rfl,ab.mk (λcM=>?_) (λDn=>?_)⟩⟩
      .have Sz:x.T<((D ai+1:Nat):Int):=by
        have h2:x.T<((D ai+sh (ai+1) (cL es l[i].conds [Ri[k]]) ai+1:Nat):Int):=by simpa using cM
        rw[hEa]at h2;exact h2
       refine FN h3 (BW ⟨ai,?_⟩ _);rw[WI ai,xw,if_pos rfl,hEa];exact Sz
      .have IF:((D ai+1:Nat):Int)<=x.T:=by
        have h2:((D ai+sh (ai+1) (cL es l[i].conds [Ri[k]]) ai+1:Nat):Int)<=x.T:=by simpa using Dn
        rw[hEa]at h2;exact h2
       refine kB.go 3 h3 rfl (by rw[iy];simp only[length_cons,length_nil];omega) (by rw[iy];simp only[length_cons,length_nil];omega) λu4 h4=>eh u4 (λj=>?_) ?_
       .rw[<- congrFun e j];unfold mK;split
        .rw[hEa];exact IF
        .exact hE j
       .rw[<- e,xw];exact h4
    .refine FN mG (BW ⟨q,?_⟩ qa);rw[WI q];omega
  .intro u1 jr ⟨hD,yl⟩;refine ab.f (by simp[f_]) ?_;rw[take_length]at yl hD;obtain⟨f2,hf2⟩:=kB.rd 3 yl rfl;have hS:=aa5 .nr [l[i]] (by simp only[ah];omega);rw[show[l[i]].map ae.pv=[l[i].pv]from rfl,ae.de]at hS;refine⟨_,_,hf2,_,yl.rd 6 rfl (by simp),hS.q ⟨_,rfl,?_⟩⟩;rw[Mem.pK];refine yl.st 6 rfl (by simp) λu2 h2=>au _ _ ⟨by rw[aex],?_,λj=>by rw[SP j];exact hD j,?_⟩
   .have h3:=hD ai;rw[HW,xH]at h3;rw[aex];omega
   .have e1:(λj=>cv j+sh a (cL es (l.take (i+1)) [b]) j)=λj=>Ci j+sh ai (dz es l[i] Ri) j:=funext SP;rw[e1];have e2:du [pI ((ai:Nat):Int)] 0 [pI (wrap .i64 (((ai:Nat):Int)+((ah [l[i]]:Nat):Int)))]=[pI ((a+ah (l.take (i+1)):Nat):Int)]:=by
     have h3:=mQ hi;have h4:ah [l[i]]=aQ l[i]:=by simp[ah]
     rw[h4,aD (by omega) (by omega)];show[pI _]=_;congr 2;omega
    rw[e2]at h2;exact h2.tail λ_ h=>h.tail λ_ h=>h.tail λ_ h=>h.drop
 .rintro⟨fr,_⟩ u next ⟨rfl,hRl,hC,xy⟩
  refine ab.f (by simp) ?_;rw[take_length]at hC xy |-;refine xy.st 4 rfl (by simp) λu1 Hx=>Hx.st 3 rfl (by simp) λu2 h2=>?_;refine⟨_,_,h2.rd 4 rfl (by simp[du]),_,h2.rd 3 rfl (by simp[du]),?_⟩;exact h1 hC _ _ (h2.tail λ_ h=>h.tail λ_ h=>h.tail λ_ h=>h.drop.drop.drop.drop)
end
mutual
def nW(es fs:List aj):ae->Prop
 | .mk k g i a v ac cs=>if k=1\/k=2 then es.filter (bj (bz (.mk k g i a v ac cs)))=fs.filter (bj (bz (.mk k g i a v ac cs)))else vL es fs cs
def vL(es fs:List aj):List ae->Prop
 |[]=>True
 |c::cs=>nW es fs c/\vL es fs cs
end
theorem A_{es fs:List aj}{c:ae}(h:es.filter (bj (bz c))=fs.filter (bj (bz c)))(l:List aP.Bind):aY c l es=aY c l fs:=by
 rw[<- kX (es:=es) (p:=bj (bz c)) λe he=>yq he,h,kX λe he=>yq he]
mutual
theorem v_{es fs:List aj}:∀(c:ae) (b:List aP.Bind),nW es fs c->ji es c b=ji fs c b
 | .mk k g i a v ac cs,b,h=>by
   unfold nW at h
   by_cases hk:k=1\/k=2
   .rw[if_pos hk]at h
    simp only[ji]
    rw[A_ h b]
    by_cases h1:k=1
    .rw[if_pos h1,if_pos h1]
    .rw[if_neg h1,if_neg h1,if_pos (hk.resolve_left h1),if_pos (hk.resolve_left h1)]
   .rw[if_neg hk]at h
    simp only[ji]
    rw[if_neg (λe=>hk (.inl e)),if_neg (λe=>hk (.inr e)),if_neg (λe=>hk (.inl e)),if_neg (λe=>hk (.inr e)),Io cs [b] h]
theorem Io{es fs:List aj}:∀(cs:List ae) (rows:List (List aP.Bind)),vL es fs cs->jQ es cs rows=jQ fs cs rows
 |[],rows,_=>rfl
 |c::cs,rows,h=>by
  unfold vL at h
  simp only[jQ]
  rw[show(λb=>ji es c b)=(λb=>ji fs c b)from funext λb=>v_ c b h.1]
  exact Io cs _ h.2
end
mutual
theorem NO{es fs:List aj}:∀(c:ae) (b:List aP.Bind) (j:Nat),nW es fs c->cC es c b j=cC fs c b j
 | .mk k g i a v ac cs,b,0,h=>by
   simp only[cC];rw[v_ _ b h]
 | .mk k g i a v ac cs,b,j+1,h=>by
   simp only[cC]
   unfold nW at h
   by_cases hk:k=1\/k=2
   .rw[if_pos hk,if_pos hk]
   .rw[if_neg hk]at h
    rw[if_neg hk,if_neg hk,NL cs [b] j h]
theorem NL{es fs:List aj}:∀(cs:List ae) (rows:List (List aP.Bind)) (j:Nat),vL es fs cs->cL es cs rows j=cL fs cs rows j
 |[],rows,j,_=>rfl
 |c::cs,rows,j,h=>by
  unfold vL at h
  simp only[cL]
  rw[show(λb=>cC es c b j)=(λb=>cC fs c b j)from funext λb=>NO c b j h.1,show(λb=>ji es c b)=(λb=>ji fs c b)from funext λb=>v_ c b h.1,NL cs _ _ h.2]
end
theorem AV{es fs:List aj}{c:ae}(h:nW es fs c)(ts:List bY):stepT es c ts=stepT fs c ts:=by
 unfold stepT;by_cases hk:c.kind=1
 .rw[if_pos hk,if_pos hk];congr 1;funext t;cases c with|mk k g i a v ac cs=>
  have hk:k=1:=hk;unfold nW at h;rw[if_pos (.inl hk)]at h;rw[A_ h]
 .rw[if_neg hk,if_neg hk];congr 1;funext t;rw[v_ c t.binds h]
def ER{es fs:List aj}{c:ae}(h:nW es fs c)(ts:List bY)(j:Nat):dI es c ts j=dI fs c ts j:=by
 unfold dI;rw[show(λt:bY=>cC es c t.binds j)=(λt:bY=>cC fs c t.binds j)from funext λt=>NO c t.binds j h]
def Tg{ms:dq}{aC:List Int}{es fs:List aj}(h:∀k∈aC,∀x,aL aw bU k ms=some x->es.filter (bj x.2.c)=fs.filter (bj x.2.c)):(∀(c:ae) (a:Nat),kG ms aC a c->nW es fs c):=by
 intro c;refine ae.ind (Q:=λc=>∀a,kG ms aC a c->nW es fs c) (λc H a e=>?_) c;have J:∀(l:List ae),(∀d∈l,∀a,kG ms aC a d->nW es fs d)->∀a,we ms aC a l->vL es fs l:=by
  intro l;induction l with
  |nil=>intro _ _ _;unfold vL;trivial
  |cons d l j=>
   intro G a y;unfold we at y;unfold vL;exact⟨G d (by simp) _ y.1,j (λO r=>G O (by simp[r])) _ y.2⟩
 obtain⟨ha,e⟩:=(wg ms aC a c).1 e;cases c with|mk k g i A v ac cs=>
 unfold nW;have U:(ae.mk k g i A v ac cs).kind=k:=rfl;rw[U]at e;by_cases C:k=1\/k=2
 .rw[if_pos C]at e |-;obtain⟨x,I,hc⟩:=e.1 ha;have:=h _ (getElem_mem ha) x I;rw[hc]at this;exact this
 .rw[if_neg C]at e |-;exact J cs (λd r=>H d r) _ e
def Gw{e j:Type}{f g:e->List j}{a b:List e}(h:a.Perm b)(r:∀x,(f x).Perm (g x)):(a.flatMap f).Perm (b.flatMap g):=by
 have A:∀l:List e,(l.flatMap f).Perm (l.flatMap g):=λl=>by
  induction l with
  |nil=>exact Perm.refl _
  |cons x l i=>rw[flatMap_cons,flatMap_cons];exact(r x).append i
 refine(A a).trans ?_;induction h with
 |nil=>exact Perm.refl _
 |cons x _ i=>rw[flatMap_cons,flatMap_cons];exact i.append_left _
 |swap x y l=>
  rw[flatMap_cons,flatMap_cons,flatMap_cons,flatMap_cons,<- append_assoc,<- append_assoc];exact List.perm_append_comm.append_right _
 |trans _ _ i1 i2=>exact i1.trans i2
def uc{e:Type}{a b:List e}(h:a.Perm b):a.isEmpty=b.isEmpty:=by
 have:=h.length_eq;cases a<;>cases b<;>simp_all
def AN{a b:List Nat}(h:a.Perm b):a.sum=b.sum:=by
 induction h with
 |nil=>rfl
 |cons x _ e=>simp[e]
 |swap x y l=>simp only[sum_cons];omega
 |trans _ _ i1 i2=>rw[i1,i2]
theorem tu{es fs:List aj}(h:es.Perm fs)(c:ae)(l:List aP.Bind):(aY c l es).Perm (aY c l fs):=h.filterMap _
mutual
theorem vZ{es fs:List aj}(h:es.Perm fs):∀(c:ae) (b:List aP.Bind),(ji es c b).Perm (ji fs c b)
 | .mk k g i a v ac cs,b=>by
   simp only[ji]
   by_cases h1:k=1
   .rw[if_pos h1,if_pos h1];exact(tu h _ b).map _
   .rw[if_neg h1,if_neg h1]
    by_cases h2:k=2
    .rw[if_pos h2,if_pos h2,uc (tu h _ b)]
    .rw[if_neg h2,if_neg h2,uc (Im h cs (Perm.refl [b]))]
theorem Im{es fs:List aj}(h:es.Perm fs):∀(cs:List ae) {r s:List (List aP.Bind)},r.Perm s->(jQ es cs r).Perm (jQ fs cs s)
 |[],_,_,hr=>by simpa only[jQ]using hr
 |c::cs,_,_,hr=>by
  simp only[jQ]
  exact Im h cs (Gw hr λb=>vZ h c b)
end
mutual
theorem NN{es fs:List aj}(h:es.Perm fs):∀(c:ae) (b:List aP.Bind) (j:Nat),cC es c b j=cC fs c b j
 | .mk k g i a v ac cs,b,0=>by simp only[cC];exact(vZ h _ b).length_eq
 | .mk k g i a v ac cs,b,j+1=>by
   simp only[cC]
   by_cases hk:k=1\/k=2
   .rw[if_pos hk,if_pos hk]
   .rw[if_neg hk,if_neg hk,GL h cs (Perm.refl [b]) j]
theorem GL{es fs:List aj}(h:es.Perm fs):∀(cs:List ae) {r s:List (List aP.Bind)},r.Perm s->∀j:Nat,cL es cs r j=cL fs cs s j
 |[],_,_,_,_=>rfl
 |c::cs,r,s,hr,j=>by
  simp only[cL]
  by_cases hj:j<aQ c
  .rw[if_pos hj,if_pos hj,show(λb=>cC es c b j)=(λb=>cC fs c b j)from funext λb=>NN h c b j]
   exact AN (hr.map _)
  .rw[if_neg hj,if_neg hj]
   exact GL h cs (Gw hr λb=>vZ h c b) _
end
theorem KD{es fs:List aj}(h:es.Perm fs)(c:ae){ts us:List bY}(ht:ts.Perm us):(stepT es c ts).Perm (stepT fs c us):=by
 unfold stepT;by_cases hk:c.kind=1
 .rw[if_pos hk,if_pos hk];exact Gw ht λt=>(tu h c t.binds).map _
 .rw[if_neg hk,if_neg hk,show(λt:bY=> !(ji es c t.binds).isEmpty)=(λt:bY=> !(ji fs c t.binds).isEmpty)from funext λt=>by rw[uc (vZ h c t.binds)]];exact ht.filter _
def Ca{es fs:List aj}(h:es.Perm fs):∀(p:List ae) {ts us:List bY},ts.Perm us->(p.foldl (λts c=>stepT es c ts) ts).Perm (p.foldl (λts c=>stepT fs c ts) us)
 |[],_,_,e=>e
 |c::p,_,_,e=>by simp only[List.foldl_cons];exact Ca h p (KD h c e)
def lI{es fs:List aj}(h:es.Perm fs)(p:List ae):(aE es p).Perm (aE fs p):=Ca h p (Perm.refl _)
def EP{es fs:List aj}(h:es.Perm fs)(c:ae){ts us:List bY}(e:ts.Perm us)(j:Nat):dI es c ts j=dI fs c us j:=by
 unfold dI;rw[show(λt:bY=>cC es c t.binds j)=(λt:bY=>cC fs c t.binds j)from funext λt=>NN h c t.binds j];exact AN (e.map _)
def AU(es:List aj)(c:ae)(a b:List bY):stepT es c (a++b)=stepT es c a++stepT es c b:=by
 unfold stepT;split
 .rw[flatMap_append]
 .rw[filter_append]
def yr(es:List aj)(c:ae)(a b:List bY)(j:Nat):dI es c (a++b) j=dI es c a j+dI es c b j:=by unfold dI;rw[map_append,List.sum_append]
def jM(es:List aj)(c:ae)(ts:List bY):dI es c ts 0=(stepT es c ts).length:=by
 induction ts with
 |nil=>unfold dI stepT;simp
 |cons t ts h=>
  have e:t::ts=[t]++ts:=rfl;rw[e,yr,AU,length_append,h];congr 1;unfold dI stepT;simp only[map_cons,map_nil,sum_cons,List.sum_nil,Nat.add_zero,pe];by_cases g:c.kind=1
  .rw[if_pos g,mc,if_pos g];simp
  .rw[if_neg g];have i:(ji es c t.binds).length=if(ji es c t.binds).isEmpty then 0 else 1:=by
    rw[mc,if_neg g];split<;>split<;>rfl
   rw[i,filter_cons,List.filter_nil];cases(ji es c t.binds).isEmpty<;>rfl
@[reducible] def kD(k:Nat):List PV:=[pI ((k:Nat):Int)]
structure mr where
 c:ae
 fa:Fl
 fv:Fl
 fc:Fl
 ka:Option Addr
 kn:Nat
 kc:Nat
 fm:Fl
 aC:List Int
 ft:Fl
 dW:List bY
 fk:Fl
 cnt:List Nat
 ends:Int
 ff:Fl
 fr:List bY
 fq:Fl
 mn:List Nat
@[reducible] def mr.pv(x:mr):List PV:=[pI x.c.kind,pB x.c.goal,pS x.c.id,.list 6 x.fa (x.c.attr.map Test.pv),.list 6 x.fv (x.c.value.map Test.pv),pB x.c.acc,.list 7 x.fc (x.c.conds.map ae.pv),.raw (.slice x.ka x.kn x.kc),.list 1 x.fm (x.aC.map fO),.list 2 x.ft (x.dW.map bY.pv),.list 1 x.fk (x.cnt.map kD),pI x.ends,.list 2 x.ff (x.fr.map bY.pv),.list 1 x.fq (x.mn.map kD)]
def km(es:List aj)(c:ae)(ts:List bY):List Nat:=(range (aQ c)).map λj=>dI es c ts j
def Tu(es:List aj)(c:ae)(j:Nat):dI es c [] j=0:=rfl
def EO(es:List aj)(c:ae){ts:List bY}{k:Nat}(e:k<ts.length)(j:Nat):dI es c (ts.take (k+1)) j=dI es c (ts.take k) j+cC es c ts[k].binds j:=by
 rw[take_add_one,getElem?_eq_getElem e,yr];simp[dI]
def WY(es:List aj)(c:ae)(ts:List bY)(k j:Nat):dI es c (ts.take k) j<=dI es c ts j:=by
 have:=yr es c (ts.take k) (ts.drop k) j;rw[List.take_append_drop]at this;omega
def KB(es:List aj)(c:ae){ts:List bY}{k:Nat}(e:k<ts.length):stepT es c (ts.take (k+1))=stepT es c (ts.take k)++stepT es c [ts[k]]:=by
 rw[take_add_one,getElem?_eq_getElem e,AU];rfl
def Oh{es:List aj}{c:ae}(h:c.kind=1)(t:bY):stepT es c [t]=(aY c t.binds es).map λx=>⟨t.tags++[x.1.tag],x.2⟩:=by
 unfold stepT;rw[if_pos h];simp
def Oi{es:List aj}{c:ae}(h:¬c.kind=1)(t:bY):stepT es c [t]=if(ji es c t.binds).isEmpty then[]else[t]:=by
 unfold stepT;rw[if_neg h,filter_cons,List.filter_nil];cases(ji es c t.binds).isEmpty<;>rfl
def Tt(es:List aj)(c:ae)(ts:List bY){j:Nat}(h:aQ c<=j):dI es c ts j=0:=by
 unfold dI;induction ts with
 |nil=>rfl
 |cons b ts e=>rw[map_cons,sum_cons,e,Ue es c _ h]
def Ze{ts:List bY}{k:Nat}(e:k<ts.length):(ts.map bY.pv)[toNat (k:Int)]?=some (bY.pv ts[k]):=aA e
def WZ(N:Nat)(g:Nat->Nat):aV ((range N).map λi=>[pI ((g i:Nat):Int)]).flatten=true:=by
 rw[aV,List.all_eq_true];intro p hp;obtain⟨r,e,hp⟩:=List.mem_flatten.1 hp;obtain⟨i,_,rfl⟩:=mem_map.1 e;simp only[mem_singleton]at hp;subst hp;rfl
section
variable {n:Nat} {x:NC} {es:List aj} {ms:dq} {ids:pq}
theorem NF(hA:dE es ms)(hI:jn es ids)(hT:0<=x.T/\x.T<=1000000){xb:Nat}(d:mr)(aJ:tE d.c)(hs:aQ d.c<=100)(tY:kG ms d.aC 0 d.c)(hN:d.aC.length=aQ d.c)(ahead:List bY)(fl:Fl)(hal:ahead.length<=1000001)(zo:∀t∈ahead,t.binds.length<=800000/\t.tags.length<=100000)
  {L:List aO} {μ:Mem} (hO:Ow (an n x es ms ids::Pt xb 126 d.pv::L) μ) {K:Kq}
  (h1:(∀j,((dI es d.c ahead j:Nat):Int)<=x.T)->∀f μ',Ow (an n x es ms ids::Pt xb 126 d.pv::L) μ'->K (.aB [.list 2 f ((stepT es d.c ahead).map bY.pv),.list 1 .sh ((km es d.c ahead).map kD),pB true]) μ')
  (h0:(∃j,x.T<((dI es d.c ahead j:Nat):Int))->∀μ',Ow (an n x es ms ids::Pt xb 126 d.pv::L) μ'->K (.aB [.list 2 .nil [],.list 1 .sh [],pB false]) μ'):
  aa prog 67 [pP n 0,pP xb 0,.list 2 fl (ahead.map bY.pv)] μ K:=by
 have Gh:1<=aQ d.c:=by rw[bN];omega
 obtain⟨hT0,hT1⟩:=hT
 refine aa.ajs (K:=λv μ'=>((∀j,((dI es d.c ahead j:Nat):Int)<=x.T)/\∃f a c,v=.aB [.list 2 f ((stepT es d.c ahead).map bY.pv),.raw (.slice a (aQ d.c) c),pB true]/\Ow (ca 3 1 (.raw (.slice a (aQ d.c) c)) ((range (aQ d.c)).map λi=>[pI ((dI es d.c ahead i:Nat):Int)])::an n x es ms ids::Pt xb 126 d.pv::L) μ')\/
  ((∃j,x.T<((dI es d.c ahead j:Nat):Int))/\v=.aB [.list 2 .nil [],.raw (.slice none 0 0),pB false]/\Ow (an n x es ms ids::Pt xb 126 d.pv::L) μ')) ?_ ?_
 .refine wN.c λb6 Gp b7 IZ b8 Pk=>?_;have O1:=((hO.new 124 [.list 2 .nil []] Gp).new 51 [.raw (.slice none 0 0)] IZ).new 4 [pB false] Pk;have aeE:flatten (List.replicate (aQ d.c) [pI 0])=((range (aQ d.c)).map λi=>[pI (((λ_=>0:Nat->Nat) i:Nat):Int)]).flatten:=by
   congr 1;refine List.ext_getElem (by simp) λi h1 h2=>?_;simp
  have fin:∀{b9 w ur:Nat} {u:Mem},Ow (Pt w 226 (WC.mk n d.fm d.aC (some ⟨ur,0,none⟩) (aQ d.c) (aQ d.c)).pv::Pt ur 3 (flatten (List.replicate (aQ d.c) [pI 0]))::an n x es ms ids::Pt xb 126 d.pv::Pt b9 224 [pP w 0]::Pt b8 4 [pB false]::Pt b7 51 [.raw (.slice none 0 0)]::Pt b6 124 [.list 2 .nil []]::L) u->
    Ow (Pt w 226 (WC.mk n d.fm d.aC (some ⟨ur,0,none⟩) (aQ d.c) (aQ d.c)).pv::eP (WC.mk n d.fm d.aC (some ⟨ur,0,none⟩) (aQ d.c) (aQ d.c)) (λ_=>0)::an n x es ms ids::Pt xb 126 d.pv::Pt b9 224 [pP w 0]::Pt b8 4 [pB false]::Pt b7 51 [.raw (.slice none 0 0)]::Pt b6 124 [.list 2 .nil []]::L) u:=λ{b9 w ur u} h=>by
   rw[aeE]at h;refine h.tail λ_ h2=>?_;have h3:=Ow.ahb (sz:=1) h2;rw[length_map,List.length_range]at h3;exact h3
  refine⟨λs u=>∃b9 w ur,s=some ⟨b9,0,none⟩/\Ow (Pt w 226 (WC.mk n d.fm d.aC (some ⟨ur,0,none⟩) (aQ d.c) (aQ d.c)).pv::eP (WC.mk n d.fm d.aC (some ⟨ur,0,none⟩) (aQ d.c) (aQ d.c)) (λ_=>0)::an n x es ms ids::Pt xb 126 d.pv::Pt b9 224 [pP w 0]::Pt b8 4 [pB false]::Pt b7 51 [.raw (.slice none 0 0)]::Pt b6 124 [.list 2 .nil []]::L) u,?_,?_⟩
  .refine⟨_,_,O1.rd 4 rfl (by simp),_,_,O1.rd 4 rfl (by simp),?_⟩;rw[show toNat (((d.aC.map fO).length:Nat):Int)=aQ d.c from by simp[hN],show(((d.aC.map fO).length:Nat):Int)=((aQ d.c:Nat):Int)from by simp[hN]];refine⟨⟨by omega,by omega,by omega,by omega,λur WL=>⟨λNS Gq b9 hb9=>?_,λb9 hb9 NS Gq=>?_⟩⟩,λb9 hb9=>⟨by omega,by omega,by omega,by omega,λur WL NS Gq=>?_⟩⟩
   .refine(((O1.new _ _ WL).new _ _ Gq).new _ _ hb9).st 0 rfl (by simp) λu h=>⟨b9,NS,ur,rfl,fin ?_⟩;exact Ow.ord [1,1,4,4,0] h
   .refine(((O1.new _ _ WL).new _ _ hb9).new _ _ Gq).st 1 rfl (by simp) λu h=>⟨b9,NS,ur,rfl,fin ?_⟩;exact Ow.ord [0,1,4,4,0] h
   .refine(((O1.new _ _ hb9).new _ _ WL).new _ _ Gq).st 2 rfl (by simp) λu h=>⟨b9,NS,ur,rfl,fin ?_⟩;exact Ow.ord [0,0,4,4,0] h
  .rintro s u ⟨b9,w,ur,rfl,gy⟩ Xs ai0;generalize hW:WC.mk n d.fm d.aC (some ⟨ur,0,none⟩) (aQ d.c) (aQ d.c)=W at gy;have hWn:W.n=n:=by rw[<- hW]
   have hWm:W.aC=d.aC:=by rw[<- hW]
   have hWN:W.N=aQ d.c:=by rw[<- hW]
   have hWc:W.pv=[pP n 0,.list 1 d.fm (d.aC.map fO),.raw (.slice (some ⟨ur,0,none⟩) (aQ d.c) (aQ d.c))]:=by rw[<- hW]
   have aaO:∀cv,eP W cv=ca 3 1 (.raw (.slice (some ⟨ur,0,none⟩) (aQ d.c) (aQ d.c))) ((range (aQ d.c)).map λi=>[pI ((cv i:Nat):Int)]):=λcv=>by rw[<- hW];rfl
   rw[<- hWn]at gy |-;have O3:=Ow.ord [1,1,1,0] (kB.new (gy.new 124 [.list 2 .nil []] ai0));have O3:Ow (Pt w 226 W.pv::eP W (λ_=>0)::an W.n x es ms ids::kB Xs 124 2 []::Pt xb 126 d.pv::Pt b9 224 [pP w 0]::Pt b8 4 [pB false]::Pt b7 51 [.raw (.slice none 0 0)]::Pt b6 124 [.list 2 .nil []]::L) _:=O3;refine ak.each (n:=ahead.length) (by omega) (λk u=>(∀j,((dI es d.c (ahead.take k) j:Nat):Int)<=x.T)/\Ow (Pt w 226 W.pv::eP W (λj=>dI es d.c (ahead.take k) j)::an W.n x es ms ids::kB Xs 124 2 ((stepT es d.c (ahead.take k)).map bY.pv)::Pt xb 126 d.pv::Pt b9 224 [pP w 0]::Pt b8 4 [pB false]::Pt b7 51 [.raw (.slice none 0 0)]::Pt b6 124 [.list 2 .nil []]::L) u) ⟨λj=>by rw[take_zero,Tu];exact hT0,?_⟩ ?_ ?_
   .have e:stepT es d.c (ahead.take 0)=[]:=by unfold stepT;split<;>simp
    rw[e];exact O3
   .rintro k u1 next hk ⟨hD,yl⟩ au
    obtain⟨htb,htt⟩:=zo _ (getElem_mem hk);generalize hDf:(λj=>dI es d.c (ahead.take k) j)=D at yl;have Pn:∀j,dI es d.c (ahead.take k) j=D j:=λj=>by rw[<- hDf]
    simp only[Pn]at hD;have hFl:(((stepT es d.c (ahead.take k)).length:Nat):Int)<=x.T:=by
     have h2:=hD 0;rw[<- Pn 0,jM]at h2;exact h2
    have eh:∀u',(∀j,((D j+cC es d.c ahead[k].binds j:Nat):Int)<=x.T)->Ow (Pt w 226 W.pv::eP W (λj=>D j+cC es d.c ahead[k].binds j)::an W.n x es ms ids::kB Xs 124 2 ((stepT es d.c (ahead.take k)).map bY.pv++(stepT es d.c [ahead[k]]).map bY.pv)::Pt xb 126 d.pv::Pt b9 224 [pP w 0]::Pt b8 4 [pB false]::Pt b7 51 [.raw (.slice none 0 0)]::Pt b6 124 [.list 2 .nil []]::L) u'->next (wrap .i64 ((k:Int)+1)) u':=λu' h2 h3=>by
     have e:(λj=>D j+cC es d.c ahead[k].binds j)=λj=>dI es d.c (ahead.take (k+1)) j:=by
      funext j;rw[EO es d.c hk,Pn]
     refine au u' ⟨λj=>?_,?_⟩
     .rw[<- congrFun e j];exact h2 j
     .rw[<- e,KB es d.c hk,map_append];exact h3
    have BW:(∃q,x.T<((D q+cC es d.c ahead[k].binds q:Nat):Int))->∃j,x.T<((dI es d.c ahead j:Nat):Int):=λ⟨q,hq⟩=>⟨q,by
     have h2:=WY es d.c ahead (k+1) q
     rw[EO es d.c hk,Pn]at h2
     omega⟩
    refine ab.t (by simpa using hk) ⟨by omega,_,Ze hk,_,_,_,_,rfl,λb12 aiY=>?_⟩;refine(yl.new 123 [.list 1 .nil [],.list 4 .nil []] aiY).st 0 rfl (by simp) λu5 h5=>?_;have mG:Ow (Pt w 226 W.pv::eP W D::an W.n x es ms ids::kB Xs 124 2 ((stepT es d.c (ahead.take k)).map bY.pv)::Pt b12 123 (bY.pv ahead[k])::Pt xb 126 d.pv::Pt b9 224 [pP w 0]::Pt b8 4 [pB false]::Pt b7 51 [.raw (.slice none 0 0)]::Pt b6 124 [.list 2 .nil []]::L) u5:=Ow.ord [1,1,1,1,0] h5;refine⟨_,mG.rd 5 rfl (by simp),ab.mk (λjJ=>?_) (λjJ=>?_)⟩
    .have qW:d.c.kind=1:=by simpa using jJ
     obtain⟨ij,SR,Nr⟩:=(mT _).1 aJ;obtain⟨Lw,Gn⟩:=(wg ms d.aC 0 d.c).1 tY;rw[if_pos (.inl qW)]at Gn;have hco:CS d.c:=⟨ij,SR (.inl qW)⟩;refine⟨_,_,_,_,_,_,_,_,_,_,mG.rd 5 rfl (by simp),_,_,_,_,_,_,_,_,_,_,mG.rd 5 rfl (by simp),_,_,mG.rd 4 rfl (by simp),_,_,mG.rd 5 rfl (by simp),by omega,_,tK Lw,_,rfl,_,_,mG.rd 4 rfl (by simp),?_⟩;refine GI (an.xt (x:=x) (es:=es) (ms:=ms) (ids:=ids) mG (by simp)) d.c _ _ _ _ ahead[k].binds (by omega) d.aC[0] ?_;obtain⟨fe,ga,gb,hf⟩:=xF W.n x.al d.aC[0] (gz ahead[k].binds d.c.id);rw[hf];refine⟨_,_,_,rfl,?_⟩;rw[Mem.pK];refine(TF fe ga gb d.c _ _ _ _ ahead[k].binds (by omega)).call ⟨_,_,_,rfl,?_⟩;have xw:ji es d.c ahead[k].binds=(aY d.c ahead[k].binds es).map (·.2):=by rw[mc,if_pos qW]
     have IY:cC es d.c ahead[k].binds 0=(aY d.c ahead[k].binds es).length:=by rw[pe,xw,length_map]
     have nu:∀j,cC es d.c ahead[k].binds (j+1)=0:=λj=>yy _ (.inl qW) j;have fF:=Oh (es:=es) qW ahead[k];refine bk.own (xR hA hI hco (Gn.1 Lw) (by omega) hf) (Ow.at 2 rfl mG)
      (λm u=>(((D 0+m:Nat):Int)<=x.T)/\Ow (Pt w 226 W.pv::eP W (mK D 0 (D 0+m))::an W.n x es ms ids::kB Xs 124 2 ((stepT es d.c (ahead.take k)).map bY.pv++((stepT es d.c [ahead[k]]).take m).map bY.pv)::Pt b12 123 (bY.pv ahead[k])::Pt xb 126 d.pv::Pt b9 224 [pP w 0]::Pt b8 4 [pB false]::Pt b7 51 [.raw (.slice none 0 0)]::Pt b6 124 [.list 2 .nil []]::L) u)
      (λcd u=>cd=.ret/\(∃q,x.T<((D q+cC es d.c ahead[k].binds q:Nat):Int))/\∃qa rs,Ow (Pt w 226 W.pv::eP W qa::an W.n x es ms ids::kB Xs 124 2 rs::Pt b12 123 (bY.pv ahead[k])::Pt xb 126 d.pv::Pt b9 224 [pP w 0]::Pt b8 4 [pB false]::Pt b7 51 [.raw (.slice none 0 0)]::Pt b6 124 [.list 2 .nil []]::L) u)
      (λm=>eW.and (eW.own _)) (λcd=>eW.and (eW.and (eW.ex λ_=>eW.ex λ_=>eW.own _))) (λμ' h'=>⟨by simpa using hD 0,?_⟩) ?_ ?_ ?_
     .have e:mK D 0 (D 0+0)=D:=by funext j;unfold mK;split<;>simp_all
      rw[e,take_zero,map_nil,append_nil];exact Ow.ord [1,1,0] h'
     .rintro m hm u2 R ⟨hDm,Ja⟩ bT iR;have sU:m<(aY d.c ahead[k].binds es).length:=by simpa using hm
      have sT:m<(stepT es d.c [ahead[k]]).length:=by rw[fF,length_map];exact sU
      rw[getElem_map];refine⟨_,_,_,_,_,_,_,_,_,_,_,_,_,_,rfl,_,Ja.rd 6 rfl (by simp),?_⟩;refine wA Ja 0 (by omega) (by unfold mK;rw[if_pos rfl];omega) λu3 h3=>⟨_,rfl,?_⟩;have eu:mK (mK D 0 (D 0+m)) 0 (mK D 0 (D 0+m) 0+1)=mK D 0 (D 0+(m+1)):=by
       funext j;unfold mK;by_cases e:j=0
       .simp[e];omega
       .simp[e]
      have ev:mK D 0 (D 0+m) 0=D 0+m:=by unfold mK;simp
      rw[eu]at h3;rw[ev];refine ab.mk (λcM=>?_) (λDn=>?_)
      .have Sz:x.T<((D 0+m+1:Nat):Int):=by simpa using cM
       refine h3.st 9 rfl (by simp) λu4 h4=>h4.st 8 rfl (by simp) λu5 h5=>h5.st 7 rfl (by simp) λu6 h6=>iR _ _ ⟨rfl,⟨0,?_⟩,_,_,h6⟩;rw[IY];omega
      .have IF:((D 0+m+1:Nat):Int)<=x.T:=by simpa using Dn
       obtain⟨f,ho⟩:=kB.open_ 3 h3 rfl;have hlen:((stepT es d.c (ahead.take k)).map bY.pv++((stepT es d.c [ahead[k]]).take m).map bY.pv).length<=2000000:=by
        rw[length_append,length_map,length_map,length_take];omega
       refine⟨_,_,ho.rd 0 rfl (by simp),_,_,ho.rd 5 rfl (by simp),_,_,ho.rd 5 rfl (by simp),_,_,ho.rd 5 rfl (by simp),by omega,by omega,by omega,rfl,?_⟩;refine Ow.abx ho (by simp;omega) (by simp;omega) λf1 u4 h4=>?_;refine Ow.app h4.swap rfl (by simp only[length_cons,length_nil];omega) (by simp only[length_cons,length_nil];omega) λf2 u5 h5=>h5.st 1 rfl (by simp) λu6 h6=>bT _ ⟨by omega,?_⟩;have e2:(stepT es d.c (ahead.take k)).map bY.pv++((stepT es d.c [ahead[k]]).take (m+1)).map bY.pv=((stepT es d.c (ahead.take k)).map bY.pv++((stepT es d.c [ahead[k]]).take m).map bY.pv)++[[.list 1 .sh (List.drop (toNat 0) (take (toNat (((ahead[k].tags.map λx=>[pI x]).length:Nat):Int)) (ahead[k].tags.map λx=>[pI x]))++[[pI (aY d.c ahead[k].binds es)[m].1.tag]]),.list 4 .sh ((aY d.c ahead[k].binds es)[m].2.map Bind.pv)]]:=by
        rw[eZ sT,append_assoc];congr 2;have e3:(stepT es d.c [ahead[k]])[m]=⟨ahead[k].tags++[(aY d.c ahead[k].binds es)[m].1.tag],(aY d.c ahead[k].binds es)[m].2⟩:=by
         simp only[fF,getElem_map]
        rw[e3];have e4:take ahead[k].tags.length (ahead[k].tags.map λx=>[pI x])=ahead[k].tags.map λx=>[pI x]:=List.take_of_length_le (by simp);simp[e4]
       rw[e2];have h7:=Ow.ord [1,1,1,0] (kB.shut h6 (by simp only[length_append,length_cons,length_nil]));exact h7
     .rintro u2 ⟨hDm,Ja⟩;rw[length_map]at hDm Ja;dsimp only[PK];have hfn:mK D 0 (D 0+(aY d.c ahead[k].binds es).length)=λj=>D j+cC es d.c ahead[k].binds j:=by
       funext j;unfold mK;cases j with
       |zero=>rw[if_pos rfl,IY]
       |succ j=>rw[if_neg (by omega),nu];rfl
      refine eh u2 (λj=>?_) ?_
      .rw[<- congrFun hfn j];unfold mK;split
       .exact hDm
       .exact hD j
      .rw[<- hfn];have hl:(aY d.c ahead[k].binds es).length=(stepT es d.c [ahead[k]]).length:=by rw[fF,length_map]
       rw[hl,take_length]at Ja;rw[hl];exact Ow.drop (Ow.ord [4] Ja)
     .rintro cd u2 ⟨rfl,hq,qa,rs,Ja⟩;dsimp only[PK];refine⟨_,_,Ja.rd 9 rfl (by simp),_,_,_,Ja.rd 8 rfl (by simp),_,Ja.rd 7 rfl (by simp),?_⟩;exact .inr ⟨BW hq,rfl,Ow.ord [0,2] (Ow.drop (Ow.drop Ja)) |> λh=>(Ow.tail h λ_ h=>h.tail λ_ h=>h.drop.drop.drop.drop.drop.drop)⟩
    .have qW:¬d.c.kind=1:=by simpa using jJ
     have fF:=Oi (es:=es) qW ahead[k];have hon:jQ es [d.c] [ahead[k].binds]=ji es d.c ahead[k].binds:=by simp[jQ]
     have ij:∀j,sh 0 (cL es [d.c] [ahead[k].binds]) j=cC es d.c ahead[k].binds j:=λj=>by rw[Fx,TT];simp[dz]
     refine⟨_,mG.rd 6 rfl (by simp),_,_,_,_,_,_,_,_,_,_,mG.rd 5 rfl (by simp),_,_,mG.rd 4 rfl (by simp),?_⟩;have e1:[[pI d.c.kind,pB d.c.goal,pS d.c.id,.list 6 .sh (d.c.attr.map Test.pv),.list 6 .sh (d.c.value.map Test.pv),pB d.c.acc,.list 7 .sh (d.c.conds.map ae.pv)]]=[d.c].map ae.pv:=by rw[map_cons,map_nil,ae.de]
     rw[e1];have adY:ah [d.c]=aQ d.c:=by simp[ah]
     refine cOn (W:=W) hA hI ⟨hT0,hT1⟩ (by rw[hWm,hWN,hN]) (ah [d.c]) [d.c] .nr .sh ahead[k].binds 0 D (le_refl _) ⟨aJ,trivial⟩ ⟨by rw[hWm];exact tY,trivial⟩ (by omega) hD (by omega) mG (λhE fr2 u2 Ja=>⟨_,_,_,rfl,ab.f rfl ?_⟩) (λ⟨q,hq⟩ qa u2 Ja=>⟨_,_,_,rfl,ab.t rfl ?_⟩)
     .simp only[ij]at hE Ja;rw[hon,iy];refine ab.mk (λki=>?_) (λki=>?_)
      .have hz:(ji es d.c ahead[k].binds).isEmpty=false:=by
        have aW:0<(ji es d.c ahead[k].binds).length:=by simpa using ki
        cases hx:ji es d.c ahead[k].binds with
        |nil=>rw[hx]at aW;simp at aW
        |cons y ys=>rfl
       rw[hz]at fF;obtain⟨f,ho⟩:=kB.open_ 3 Ja rfl;refine⟨_,_,ho.rd 0 rfl (by simp),_,_,_,_,ho.rd 5 rfl (by simp),?_⟩;refine Ow.app ho.swap rfl (by simp only[length_cons,length_nil,length_map];omega) (by simp only[length_cons,length_nil,length_map];omega) λf2 u5 h5=>h5.st 1 rfl (by simp) λu6 h6=>eh _ hE ?_;rw[fF];have h7:=Ow.ord [1,1,1,0] (kB.shut h6 (by simp;done));exact Ow.drop (Ow.ord [4] h7)
      .have hz:(ji es d.c ahead[k].binds).isEmpty=true:=by
        have aW:(ji es d.c ahead[k].binds).length=0:=by simpa using ki
        rw[isEmpty_iff];exact List.eq_nil_of_length_eq_zero aW
       rw[hz]at fF;refine eh _ hE ?_;rw[fF];simp only[if_true,map_nil,append_nil];exact Ow.drop (Ow.ord [4] Ja)
     .rw[ij]at hq;refine Ja.st 9 rfl (by simp) λu4 h4=>h4.st 8 rfl (by simp) λu5 h5=>h5.st 7 rfl (by simp) λu6 h6=>?_;refine⟨_,_,h6.rd 9 rfl (by simp[du]),_,_,_,h6.rd 8 rfl (by simp[du]),_,h6.rd 7 rfl (by simp[du]),?_⟩;exact .inr ⟨BW ⟨q,hq⟩,rfl,Ow.ord [0,2] (Ow.drop (Ow.drop h6)) |> λh=>(Ow.tail h λ_ h=>h.tail λ_ h=>h.drop.drop.drop.drop.drop.drop)⟩
   .rintro u1 next ⟨hD,yl⟩
    refine ab.f (by simp) ?_;rw[take_length]at hD yl;obtain⟨f,mG⟩:=kB.end_ 3 yl rfl;have mG:Ow (Pt w 226 W.pv::eP W (λj=>dI es d.c ahead j)::an W.n x es ms ids::Pt Xs 124 [.list 2 f ((stepT es d.c ahead).map bY.pv)]::Pt xb 126 d.pv::Pt b9 224 [pP w 0]::Pt b8 4 [pB false]::Pt b7 51 [.raw (.slice none 0 0)]::Pt b6 124 [.list 2 .nil []]::L) u1:=mG;have key:∀u',Ow (Pt w 226 W.pv::eP W (λj=>dI es d.c ahead j)::an W.n x es ms ids::Pt Xs 124 [.list 2 f ((stepT es d.c ahead).map bY.pv)]::Pt xb 126 d.pv::Pt b9 224 [pP w 0]::Pt b8 4 [pB true]::Pt b7 51 [.raw (.slice W.a W.N W.c)]::Pt b6 124 [.list 2 f ((stepT es d.c ahead).map bY.pv)]::L) u'->
      ∃a c,ay u' b6 0 1=some [.list 2 f ((stepT es d.c ahead).map bY.pv)]/\ay u' b7 0 1=some [.raw (.slice a (aQ d.c) c)]/\ay u' b8 0 1=some [pB true]/\Ow (ca 3 1 (.raw (.slice a (aQ d.c) c)) ((range (aQ d.c)).map λi=>[pI ((dI es d.c ahead i:Nat):Int)])::an W.n x es ms ids::Pt xb 126 d.pv::L) u':=λu' h7=>by
     have h8:Ow (eP W (λj=>dI es d.c ahead j)::an W.n x es ms ids::Pt xb 126 d.pv::L) u':=(Ow.ord [0,0,1] h7.drop).tail λ_ h=>h.tail λ_ h=>h.tail λ_ h=>h.drop.drop.drop.drop.drop;rw[aaO]at h8;refine⟨some ⟨ur,0,none⟩,aQ d.c,h7.rd 8 rfl (by simp),?_,h7.rd 6 rfl (by simp),h8⟩;have h9:=h7.rd 7 (o:=0) (n:=1) rfl (by simp);subst hW;exact h9
    refine⟨_,_,mG.rd 3 rfl (by simp),⟨_,mG.rd 5 rfl (by simp),⟨_,_,_,mG.rd 0 rfl (by simp),mG.st 8 rfl (by simp) λu2 h2=>⟨h2.st 7 rfl (by simp) λu3 h3=>⟨h3.st 6 rfl (by simp) λu4 h4=>(let ⟨a,c,r1,r2,r3,hv⟩:=key _ h4;⟨_,_,r1,_,_,_,r2,_,r3,.inl ⟨hD,f,a,c,rfl,hv⟩⟩),trivial⟩,trivial⟩,trivial⟩,mG.st 8 rfl (by simp) λu2 h2=>⟨_,_,_,h2.rd 0 rfl (by simp),h2.st 7 rfl (by simp) λu3 h3=>⟨h3.st 6 rfl (by simp) λu4 h4=>(let ⟨a,c,r1,r2,r3,hv⟩:=key _ h4;⟨_,_,r1,_,_,_,r2,_,r3,.inl ⟨hD,f,a,c,rfl,hv⟩⟩),trivial⟩,trivial⟩,trivial⟩,mG.st 8 rfl (by simp) λu2 h2=>⟨_,h2.rd 5 rfl (by simp),_,_,_,h2.rd 0 rfl (by simp),h2.st 7 rfl (by simp) λu3 h3=>⟨h3.st 6 rfl (by simp) λu4 h4=>(let ⟨a,c,r1,r2,r3,hv⟩:=key _ h4;⟨_,_,r1,_,_,_,r2,_,r3,.inl ⟨hD,f,a,c,rfl,hv⟩⟩),trivial⟩,trivial⟩,trivial⟩
 .rintro v μ' (⟨hc,f,a,c,rfl,h⟩|⟨hc,rfl,h⟩)
  .obtain⟨nj,bs,h2,h3,hb⟩:=ca.frz h (yt _ _) (WZ _ _);have e:((range (aQ d.c)).map λi=>[pI ((dI es d.c ahead i:Nat):Int)])=(km es d.c ahead).map kD:=by unfold km;rw[List.map_map];rfl
   rw[e]at hb;refine⟨_,nj,bs,dL.aB (ds:=[.list 2 f ((stepT es d.c ahead).map bY.pv),.list 1 .sh ((km es d.c ahead).map kD),pB true]) rfl (by simp[PV.ok,PV.cell]) (λi p q hp hq=>?_),h2,h1 hc f nj h3⟩
   match i with
   |0=>cases hp;cases hq;exact .same _
   |1=>cases hp;cases hq;exact hb
   |2=>cases hp;cases hq;exact .same _
   |i+3=>simp at hp
  .refine⟨_,μ',[],dL.aB (ds:=[.list 2 .nil [],.list 1 .sh [],pB false]) rfl (by simp[PV.ok,PV.cell]) (λi p q hp hq=>?_),λb o h=>⟨h,by simp⟩,h0 hc μ' h⟩
   match i with
   |0=>cases hp;cases hq;exact .same _
   |1=>cases hp;cases hq;exact .Dk none 0 1 (.inl rfl)
   |2=>cases hp;cases hq;exact .same _
   |i+3=>simp at hp
end
def mf{ms:dq}(g:ch aw bU ms)(y:Int×eF)(k:Int):aL aw bU k (aZ aw bU y ms)=if k=y.1 then some y else aL aw bU k ms:=by
 by_cases e:k=y.1
 .rw[if_pos e];exact(bf ar (g.ins ar y)).2 ⟨(bq ar).2 (.inl rfl),e.symm⟩
 .rw[if_neg e];cases j:aL aw bU k ms with
  |some x=>
   obtain⟨i,r⟩:=(bf ar g).1 j;refine(bf ar (g.ins ar y)).2 ⟨(bq ar).2 (.inr ⟨i,λh=>e ?_⟩),r⟩;exact r.symm.trans h
  |none=>
   refine(bD ar).2 λx A h=>?_;rcases(bq ar).1 A with rfl|⟨i,_⟩
   .exact e h.symm
   .exact(bD ar).1 j x i h
def Je{ms:dq}(i:ch aw bU ms)(j k:Int):aL aw bU k (bu aw bU j ms)=if k=j then none else aL aw bU k ms:=by
 by_cases e:k=j
 .rw[if_pos e];exact(bD ar).2 λx g h=>((ee ar).1 g).2 (h.trans e)
 .rw[if_neg e];cases r:aL aw bU k ms with
  |some x=>
   obtain⟨A,y⟩:=(bf ar i).1 r;exact(bf ar (i.del j)).2 ⟨(ee ar).2 ⟨A,λh=>e (y.symm.trans h)⟩,y⟩
  |none=>exact(bD ar).2 λx g h=>(bD ar).1 r x ((ee ar).1 g).1 h
def fV(k:Int)(ms:dq):Int:=((aL aw bU k ms).map λx=>x.2.aN).getD 0
def tj{ms:dq}(e:ch aw bU ms)(y:Int×eF)(k:Int):fV k (aZ aw bU y ms)=if k=y.1 then y.2.aN else fV k ms:=by
 unfold fV;rw[mf e];split<;>rfl
def Ku{ms:dq}(e:ch aw bU ms)(j k:Int):fV k (bu aw bU j ms)=if k=j then 0 else fV k ms:=by
 unfold fV;rw[Je e];split<;>rfl
def BI:∀{a b:List Int},a.Nodup->(∀x∈a,x∈b)->a.length<=b.length
 |[],_,_,_=>Nat.zero_le _
 |x::a,b,i,h=>by
  obtain⟨r,j⟩:=nodup_cons.1 i
  have g:=h x (by simp);have:=BI (b:=b.erase x) j λy e=>(List.mem_erase_of_ne (by rintro rfl;exact r e)).2 (h y (by simp[e]));rw[List.length_erase_of_mem g]at this;have hp:0<b.length:=List.length_pos_of_mem g;simp only[length_cons];omega
structure fE(es:List aj)(ms:dq)(l:List Int):Prop where
 inv:dE es ms
 use:∀k,0<=k->fV k ms=(l.count k:Nat)
def fE.len{es:List aj}{ms:dq}{l:List Int}(h:fE es ms l):ms.length<=l.length:=by
 have:=BI (a:=ms.map bU) (b:=l) ?_ ?_
 .simpa using this
 .have A:(ms.map bU).Pairwise λa b=>aw a b<0:=by rw[List.pairwise_map];exact h.inv.nD
  refine A.imp λ{a b} j e=>?_;rw[e]at j;exact absurd j (by rw[ar.self b];omega)
 .intro k r;obtain⟨x,g,rfl⟩:=mem_map.1 r;have i:=h.use (bU x) (h.inv.num x g).1;have y:aL aw bU (bU x) ms=some x:=(bf ar h.inv.nD).2 ⟨g,rfl⟩;unfold fV at i;rw[y]at i;have G:x.2.aN=((l.count (bU x):Nat):Int):=i;have C:=(h.inv.aN x g).1;exact List.count_pos_iff.1 (by omega)
def fE.us{es:List aj}{ms:dq}{l:List Int}(h:fE es ms l):∀x∈ms,x.2.aN<=(l.length:Nat):=λx g=>by
 have e:=h.use (bU x) (h.inv.num x g).1;have i:aL aw bU (bU x) ms=some x:=(bf ar h.inv.nD).2 ⟨g,rfl⟩;unfold fV at e;rw[i]at e;have j:x.2.aN=((l.count (bU x):Nat):Int):=e;have:=List.count_le_length (a:=bU x) (l:=l);omega
def fE.as{es:List aj}{ms:dq}{l l':List Int}(h:fE es ms l)(e:∀k,0<=k->l.count k=l'.count k):fE es ms l':=⟨h.inv,λk g=>by rw[h.use k g,e k g]⟩
def fE.perm{es:List aj}{ms:dq}{l l':List Int}(h:fE es ms l)(e:l.Perm l'):fE es ms l':=h.as λk _=>e.count_eq k
def iD(ms e:dq):Prop:=∀j d,dO ms j d->dO e j d
def iD.refl(ms:dq):iD ms ms:=λ_ _ h=>h
def iD.trans{a b c:dq}(h:iD a b)(k:iD b c):iD a c:=λj d e=>k j d (h j d e)
def t_{ms g:dq}{aC:List Int}(G:∀j∈aC,∀d,dO ms j d->dO g j d):∀(c:ae) (a:Nat),kG ms aC a c->kG g aC a c:=by
 intro c;refine ae.ind (Q:=λc=>∀a,kG ms aC a c->kG g aC a c) (λc A a e=>?_) c;have C:∀(l:List ae),(∀d∈l,∀a,kG ms aC a d->kG g aC a d)->∀a,we ms aC a l->we g aC a l:=by
  intro l;induction l with
  |nil=>intro _ _ _;unfold we;trivial
  |cons d l i=>
   intro y a r;unfold we at r |-;exact⟨y d (by simp) _ r.1,i (λI H=>y I (by simp[H])) _ r.2⟩
 rw[wg]at e |-;obtain⟨ha,e⟩:=e;refine⟨ha,?_⟩;by_cases h:c.kind=1\/c.kind=2
 .rw[if_pos h]at e |-;exact⟨λJ=>G _ (getElem_mem ha) _ (e.1 ha),e.2⟩
 .rw[if_neg h]at e |-;exact C _ A _ e
def Cd{ms e:dq}{aC:List Int}(g:iD ms e)(c:ae)(a:Nat)(h:kG ms aC a c):kG e aC a c:=t_ (λj _ d=>g j d) c a h
def WT{ms:dq}{aC:List Int}:∀(c:ae) (a e:Nat),tE c->(∀(q:Nat) (y:Nat×Nat×ae),(gW c a e)[q]?=some y->∃h:a+q<aC.length,y.2.2.kind=3\/dO ms aC[a+q] y.2.2)->(∀(q:Nat) (y:Nat×Nat×ae),(gW c a e)[q]?=some y->y.2.2.kind=3->¬(y.2.2.kind=1\/y.2.2.kind=2))->kG ms aC a c:=by
 intro c;refine ae.ind (Q:=λc=>∀(a e:Nat),tE c->(∀(q:Nat) (y:Nat×Nat×ae),(gW c a e)[q]?=some y->∃h:a+q<aC.length,y.2.2.kind=3\/dO ms aC[a+q] y.2.2)->(∀(q:Nat) (y:Nat×Nat×ae),(gW c a e)[q]?=some y->y.2.2.kind=3->¬(y.2.2.kind=1\/y.2.2.kind=2))->kG ms aC a c) (λc I a e j hp G=>?_) c;have J:∀(l:List ae),(∀d∈l,∀(a e:Nat),tE d->(∀(q:Nat) (y:Nat×Nat×ae),(gW d a e)[q]?=some y->∃h:a+q<aC.length,y.2.2.kind=3\/dO ms aC[a+q] y.2.2)->(∀(q:Nat) (y:Nat×Nat×ae),(gW d a e)[q]?=some y->y.2.2.kind=3->¬(y.2.2.kind=1\/y.2.2.kind=2))->kG ms aC a d)->∀a e,tD l->(∀(q:Nat) (y:Nat×Nat×ae),(dd l a e)[q]?=some y->∃h:a+q<aC.length,y.2.2.kind=3\/dO ms aC[a+q] y.2.2)->(∀(q:Nat) (y:Nat×Nat×ae),(dd l a e)[q]?=some y->y.2.2.kind=3->¬(y.2.2.kind=1\/y.2.2.kind=2))->we ms aC a l:=by
  intro l;induction l with
  |nil=>intro _ _ _ _ _ _;unfold we;trivial
  |cons d l C=>
   intro A a e j H r;unfold tD at j;unfold we;have i:=nU d a e;refine⟨A d (by simp) a e j.1 (λq y g=>H q y ?_) (λq y g=>r q y ?_),C (λY O=>A Y (by simp[O])) (a+aQ d) e j.2 (λq y g=>?_) (λq y g=>?_)⟩
   .simp only[dd];rw[List.getElem?_append_left (List.getElem?_eq_some_iff.1 g).1];exact g
   .simp only[dd];rw[List.getElem?_append_left (List.getElem?_eq_some_iff.1 g).1];exact g
   .have:=H (aQ d+q) y (by simp only[dd];rw[List.getElem?_append_right (by omega),i];simpa using g);simpa[add_assoc]using this
   .exact r (aQ d+q) y (by simp only[dd];rw[List.getElem?_append_right (by omega),i];simpa using g)
 rw[MR]at hp G;rw[wg];obtain⟨_,BU,Nr⟩:=(mT c).1 j;obtain⟨U,A⟩:=hp 0 _ rfl;refine⟨U,?_⟩;by_cases h:c.kind=1\/c.kind=2
 .rw[if_pos h];refine⟨λ_=>A.resolve_left λr=>G 0 _ rfl r h,BU h⟩
 .rw[if_neg h];refine J c.conds I (a+1) (e+1) Nr (λq y g=>?_) (λq y g=>G (q+1) y (by simpa using g));have:=hp (q+1) y (by simpa using g);simpa[add_assoc,Nat.add_comm 1]using this
def fE.one{es:List aj}{ms:dq}{l:List Int}(h:fE es ms l)(I:l.length<=900000){x:Int×eF}(g:x∈ms){c:ae}(hc:x.2.c=bz c):
  fE es (aZ aw bU (x.1,{x.2 with aN:=x.2.aN+1}) ms) (x.1::l)/\dO (aZ aw bU (x.1,{x.2 with aN:=x.2.aN+1}) ms) x.1 c/\iD ms (aZ aw bU (x.1,{x.2 with aN:=x.2.aN+1}) ms):=by
 have H:=h.inv.aN x g;have J:=h.us x g;have C:aL aw bU x.1 ms=some x:=(bf ar h.inv.nD).2 ⟨g,rfl⟩;refine⟨⟨h.inv.jd g (x':=(x.1,{x.2 with aN:=x.2.aN+1})) rfl rfl rfl ⟨by show 1<=x.2.aN+1;omega,by show x.2.aN+1<1000000;omega⟩,λk A=>?_⟩,⟨(x.1,{x.2 with aN:=x.2.aN+1}),by rw[mf h.inv.nD,if_pos rfl],hc⟩,λj d ⟨y,r,G⟩=>?_⟩
 .rw[tj h.inv.nD,count_cons];by_cases e:k=x.1
  .have i:=h.use k A;unfold fV at i;rw[e,C]at i;have i:x.2.aN=((l.count x.1:Nat):Int):=i;rw[if_pos e,e,if_pos (by simp)];show x.2.aN+1=_;omega
  .rw[if_neg e,if_neg (by simpa using Ne.symm e),h.use k A];rfl
 .unfold dO;rw[mf h.inv.nD];by_cases e:j=x.1
  .rw[if_pos e];rw[e,C]at r;cases r;exact⟨_,rfl,G⟩
  .rw[if_neg e];exact⟨y,r,G⟩
def fE.new{es:List aj}{ms:dq}{l:List Int}(h:fE es ms l)(O:l.length<=900000){c:ae}(r:cU c)(G:∀x∈ms,x.2.c≠bz c)(b:Nat):
  fE es (aZ aw bU (least ms,⟨bz c,1,b,es.filter (bj (bz c))⟩) ms) (least ms::l)/\dO (aZ aw bU (least ms,⟨bz c,1,b,es.filter (bj (bz c))⟩) ms) (least ms) c/\iD ms (aZ aw bU (least ms,⟨bz c,1,b,es.filter (bj (bz c))⟩) ms):=by
 have H:=h.len;obtain⟨C,I⟩:=h.inv.new (EY r) G b (by omega);refine⟨⟨I,λk A=>?_⟩,⟨_,by rw[mf h.inv.nD,if_pos rfl],rfl⟩,λj d ⟨y,i,J⟩=>?_⟩
 .rw[tj h.inv.nD,count_cons];by_cases e:k=least ms
  .have g:=h.use k A;unfold fV at g;rw[e,C]at g;have g:(0:Int)=((l.count (least ms):Nat):Int):=g;rw[if_pos e,e,if_pos (by simp)];show(1:Int)=_;omega
  .rw[if_neg e,if_neg (by simpa using Ne.symm e),h.use k A];rfl
 .unfold dO;rw[mf h.inv.nD];by_cases e:j=least ms
  .rw[e,C]at i;cases i
  .rw[if_neg e];exact⟨y,i,J⟩
def fE.less{es:List aj}{ms:dq}{k:Int}{l l':List Int}(h:fE es ms l)(e:∀j,l.count j=l'.count j+(if j=k then 1 else 0)):fE es (jG k ms) l'/\∀j d,j∈l'->dO ms j d->dO (jG k ms) j d:=by
 refine⟨⟨h.inv.leave k,λj I=>?_⟩,λj d I ⟨y,C,H⟩=>?_⟩
 .have i:=h.use j I;have r:=e j;unfold jG;cases A:aL aw bU k ms with
  |none=>
   dsimp only;rw[i];by_cases g:j=k
   .rw[if_pos g]at r;unfold fV at i;rw[g,A]at i;have i:(0:Int)=((l.count k:Nat):Int):=i;rw[g]at r;omega
   .rw[if_neg g]at r;omega
  |some x=>
   obtain⟨J,G⟩:=(bf ar h.inv.nD).1 A;dsimp only;split
   .rename_i O;rw[Ku h.inv.nD];by_cases g:j=k
    .rw[if_pos g]at r |-;unfold fV at i;rw[g,A]at i;have i:x.2.aN=((l.count k:Nat):Int):=i;rw[g]at r |-;omega
    .rw[if_neg g]at r |-;omega
   .rename_i O;rw[tj h.inv.nD];by_cases g:j=k
    .rw[if_pos g]at r;rw[if_pos (show j=(k,({x.2 with aN:=x.2.aN-1}:eF)).1 from g)];unfold fV at i;rw[g,A]at i;have i:x.2.aN=((l.count k:Nat):Int):=i;show x.2.aN-1=_;rw[g]at r |-;omega
    .rw[if_neg g]at r;rw[if_neg (show ¬j=(k,({x.2 with aN:=x.2.aN-1}:eF)).1 from g)];omega
 .unfold dO jG;cases A:aL aw bU k ms with
  |none=>exact⟨y,C,H⟩
  |some x=>
   obtain⟨J,G⟩:=(bf ar h.inv.nD).1 A;dsimp only;by_cases g:j=k
   .rw[g,A]at C;cases C;have Y:=h.inv.num y J;have Q:y.1=k:=G;have i:=h.use k (by omega);have r:=e k;rw[if_pos rfl]at r;unfold fV at i;rw[A]at i;have i:y.2.aN=((l.count k:Nat):Int):=i;have U:0<l'.count k:=List.count_pos_iff.2 (g▸I);rw[if_neg (by omega),mf h.inv.nD,if_pos (show j=(k,({y.2 with aN:=y.2.aN-1}:eF)).1 from g)];exact⟨_,rfl,H⟩
   .split
    .rw[Je h.inv.nD,if_neg g];exact⟨y,C,H⟩
    .rw[mf h.inv.nD,if_neg (show ¬j=(k,({x.2 with aN:=x.2.aN-1}:eF)).1 from g)];exact⟨y,C,H⟩
section
variable {n:Nat} {x:NC} {es:List aj} {ids:pq}
def an.alpha{ms:dq}{L:List aO}{μ:Mem}(h:Ow (an n x es ms ids::L) μ):Ow (bH x.al es ms::Pt n 116 x.pv::gR x.id ids::L) μ:=(h.nest (L1:=[Pt n 116 x.pv,bH x.al es ms,gR x.id ids])).swap
def an.back{ms:dq}{L:List aO}{μ:Mem}(h:Ow (bH x.al es ms::Pt n 116 x.pv::gR x.id ids::L) μ):Ow (an n x es ms ids::L) μ:=Ow.pack (L1:=[Pt n 116 x.pv,bH x.al es ms,gR x.id ids]) h.swap
def Xj{ms:dq}{k:Int}{l l':List Int}(i:fE es ms l)(e:∀j,l.count j=l'.count j+(if j=k then 1 else 0)){L:List aO}{μ:Mem}(y:Ow (an n x es ms ids::L) μ){K:Kq}
  (r:∀b h,fE es h l'->(∀j d,j∈l'->dO ms j d->dO h j d)->∀g,Ow (an n x es h ids::L) g->K (pB b) g):aa prog 119 [pP x.al 0,pI k] μ K:=by
 obtain⟨C,A⟩:=i.less e;exact Xn (an.alpha y) i.inv k λg G=>r _ _ C A g (an.back G)
end
def iN(c:ae)(f:Fl)(aC:List Int):mr:=⟨c,.sh,.sh,.sh,none,0,0,f,aC,.nil,[],.nil,[],0,.nil,[],.nil,[]⟩
def adx{es:List aj}{ms:dq}{l:List Int}{j:Int}{d:ae}(h:fE es ms l)(i:dO ms j d):0<=j:=by
 obtain⟨y,g,_⟩:=i;obtain⟨r,e⟩:=(bf ar h.inv.nD).1 g;have:=(h.inv.num y r).1;have e:y.1=j:=e;omega
section
variable {n:Nat} {x:NC} {es:List aj} {ids:pq}
def NJ{ms:dq}{l:List Int}{xb:Nat}(d:mr)(Q:fE es ms (d.aC++l))(hd:d.aC.length<=1000){L:List aO}{μ:Mem}(H:Ow (an n x es ms ids::Pt xb 126 d.pv::L) μ){K:Kq}
  (O:∀g,fE es g l->(∀j d,j∈l->dO ms j d->dO g j d)->∀i,Ow (an n x es g ids::Pt xb 126 d.pv::L) i->K (.aB []) i):aa prog 68 [pP n 0,pP xb 0] μ K:=by
 refine yM.c ⟨_,_,H.rd 1 rfl (by simp),?_⟩;refine ak.each (n:=d.aC.length) (by omega) (λk u=>∃g,(fE es g (d.aC.drop k++l)/\(∀j d,j∈l->dO ms j d->dO g j d))/\Ow (an n x es g ids::Pt xb 126 d.pv::L) u) ⟨ms,⟨by simpa using Q,λj d _ h=>h⟩,H⟩ ?_ ?_
 .rintro k u next C ⟨g,⟨r,hK⟩,h⟩ Y
  refine ab.t (by simpa using C) ⟨by omega,_,tK C,_,rfl,?_⟩;refine⟨_,aH (an.xt (x:=x) (es:=es) (ms:=g) (ids:=ids) h (by simp)) (by simp),Xj r (l':=d.aC.drop (k+1)++l) (λj=>?_) h λb I y A u2 U=>⟨_,rfl,Y _ ⟨I,⟨y,λj d G J=>A j d (by simp[G]) (hK j d G J)⟩,U⟩⟩⟩;rw[List.drop_eq_getElem_cons C,List.count_append,List.count_append,count_cons];by_cases e:j=d.aC[k]
  .rw[if_pos (by simp[e]),if_pos e];omega
  .rw[if_neg (by simpa using Ne.symm e),if_neg e];omega
 .rintro u next ⟨g,⟨r,hK⟩,h⟩
  refine ab.f (by simp) ?_;rw[List.drop_length]at r;exact O g (by simpa using r) hK u h
end
namespace RN
abbrev El:={n:Int // -1<=n/\n<1000000}
@[reducible] def pv(x:El):List PV:=[pI x.1]
@[reducible] def arg(x:El):PV:=pI x.1
def key(x:El):Int:=x.1
def ck(a b:Int):Int:=a-b
def hc:nI ck:=⟨λa b=>by unfold ck;omega,λa b=>by unfold ck;omega,λa b d h k=>by unfold ck at *;omega⟩
def uq(a b:El):Pure prog 306 [arg a,arg b] (pI (ck (key a) (key b))):=by
 refine av.of (qf.c ?_);obtain⟨a,ha⟩:=a;obtain⟨b,e⟩:=b;show _=pI (a-b);simp only[wk,cb];rw[aD (by omega) (by omega)]
@[reducible] noncomputable def D:SD:=⟨prog,244,158,1,8,306,λQ=>∃x,Q [pI x],λr=>r.headD .aU,[pI (0)]⟩
abbrev At(b:Nat)(l:List El):aO:=cq 244 158 1 b (l.map pv)
def mE:NW D pv arg key ck:=⟨λx Q h=>⟨_,h⟩,λ_=>rfl,λ_=>rfl,λ_=>rfl,λ_=>rfl,hc,uq,λv=>by kernel_rfl,rfl,by decide,by decide⟩
def dm{x:El}{g:Option Addr}{e:Mem}{K:Kq}(h:D.find g e K (arg x)):aa prog 133 [pA g,arg x] e K:=VC [] [(2,⟨[(6,.one (.raw (.int .i64))),(7,.one (.raw (.int .i64)))],[]⟩)] [] [] [] [] [] func133 h
def FQ{x:El}{g:Option Addr}{e:Mem}{K:Kq}(h:D.place g e K (arg x) 133):aa prog 194 [pA g,arg x] e K:=VC [] [] [] [] [] [] [] func194 h
def rl:=mE.rl dm FQ
def gX{g:Option Addr}{e:Mem}{K:Kq}(h:D.own g e K):aa prog 134 [pA g] e K:=VC [] [] [] [] [] [] [] func134 h
def lR{x:El}{g:Option Addr}{e:Mem}{K:Kq}(h:D.put g e K (pv x) (arg x) 133 134):aa prog 79 [pA g,arg x] e K:=VC [] [(9,⟨[(7,.one (.raw (.int .i64)))],[]⟩)] [] [] [] [] [23,32,43,48,57] func79 h
def fX:=mE.fX dm gX lR
def lS{fl:Fl}{l:Lq}{e:Mem}{K:Kq}(h:D.new e K 79 l):aa prog 76 [.list 1 fl l] e K:=VC [] [(3,⟨[(10,.one (.raw (.int .i64)))],[]⟩)] [] [] [] [] [] func76 h
def gB:=mE.gB fX lS
end RN
def oV{e:Type}(f:e->e->Bool):List e->List e->Bool
 |[],[]=>true
 |a::l,b::r=>f a b&&oV f l r
 |_,_=>false
def tN{e:Type}{f:e->e->Bool}(h:∀a b,f a b=true↔a=b):∀a b:List e,oV f a b=true↔a=b
 |[],[]=>by simp[oV]
 |[],b::r=>by simp[oV]
 |a::l,[]=>by simp[oV]
 |a::l,b::r=>by simp only[oV,and_eq_true,h,tN h l r,List.cons.injEq]
def Vm(a b:Sym):Bool:=fu a b
def vm(a b:Sym):Vm a b=true↔a=b:=cH
def Fm(a b:Test):Bool:=(a.rel == b.rel)&&(aG a.var b.var&&(Vm a.sym b.sym&&oV Vm a.list b.list))
def Kz(a b:Test):Fm a b=true↔a=b:=by
 unfold Fm;obtain⟨r,v,s,l⟩:=a;obtain⟨h,e,g,i⟩:=b;simp only[and_eq_true,beq_iff_eq,bM,vm,tN vm,Test.mk.injEq]
mutual
def eqC:ae->ae->Bool
 | .mk k g i a v ac cs,d=>(k == d.kind)&&((g == d.goal)&&(aG i d.id&&(oV Fm a d.attr&&(oV Fm v d.value&&((ac == d.acc)&&eqL cs d.conds)))))
def eqL:List ae->List ae->Bool
 |[],ds=>ds.isEmpty
 |c::cs,ds=>match ds with|[]=>false|d::ds=>eqC c d&&eqL cs ds
end
mutual
theorem GA:∀(c d:ae),eqC c d=true↔c=d
 | .mk k g i a v ac cs,.mk k' g' i' a' v' ac' GF=>by
   simp only[eqC,ae.kind,ae.goal,ae.id,ae.attr,ae.value,ae.acc,ae.conds,and_eq_true,beq_iff_eq,bM,tN Kz,Nx cs,ae.mk.injEq]
theorem Nx:∀(cs ds:List ae),eqL cs ds=true↔cs=ds
 |[],ds=>by simp only[eqL,isEmpty_iff];exact eq_comm
 |c::cs,[]=>by simp[eqL]
 |c::cs,d::ds=>by simp only[eqL,and_eq_true,GA c,Nx cs,List.cons.injEq]
end
instance decCond:DecidableEq ae:=λc d=>if h:eqC c d=true then isTrue ((GA c d).1 h)else isFalse λe=>h ((GA c d).2 e)
abbrev Path:=List ae
structure Tree where
 D:List Path
 B:Path->Nat
 M:Path->List Int
 E:Path->Nat
 K:Path->List ae
 S:Path->Option Addr×Nat
def HA:ae:=.mk 0 false ⟨#[]⟩ [] [] false []
def Iz(p:Path):ae:=p.getLast?.getD HA
@[simp] theorem oX(p:Path)(c:ae):Iz (p++[c])=c:=by simp[Iz]
structure Fls where
 a:Fl
 v:Fl
 c:Fl
 m:Fl
 t:Fl
 k:Fl
 f:Fl
 q:Fl
@[reducible] def gK(T:Tree)(tk:Path->List bY)(ct:Path->List Nat)(fr:Path->List bY)(mn:Path->List Nat)(p:Path)(F:Fls):mr:=⟨Iz p,F.a,F.v,F.c,(T.S p).1,(T.K p).length,(T.S p).2,F.m,T.M p,F.t,tk p,F.k,ct p,(T.E p:Nat),F.f,fr p,F.q,mn p⟩
@[reducible] def ig(T:Tree)(p:Path):Lq:=(T.K p).map λc=>[pP (T.B (p++[c])) 0]
@[reducible] def Hq(T:Tree)(p:Path):aO:=ca 110 1 (.raw (.slice (T.S p).1 (T.K p).length (T.S p).2)) (ig T p)
def et(T:Tree)(tk:Path->List bY)(ct:Path->List Nat)(fr:Path->List bY)(mn:Path->List Nat)(p:Path):aO:=λμ=>∃F,Ow [Pt (T.B p) 126 (gK T tk ct fr mn p F).pv,Hq T p] μ
def cj(T:Tree)(tk:Path->List bY)(ct:Path->List Nat)(fr:Path->List bY)(mn:Path->List Nat):aO:=Ow (T.D.map (et T tk ct fr mn))
section
variable {T:Tree} {tk:Path->List bY} {ct:Path->List Nat} {fr:Path->List bY} {mn:Path->List Nat} {L:List aO} {μ:Mem}
def cj.out{p:Path}(hp:p∈T.D)(h:Ow (cj T tk ct fr mn::L) μ):∃A B F,T.D=A++p::B/\Ow (Pt (T.B p) 126 (gK T tk ct fr mn p F).pv::Hq T p::Ow ((A++B).map (et T tk ct fr mn))::L) μ:=by
 obtain⟨A,B,e⟩:=append_of_mem hp;unfold cj at h;rw[e,map_append,map_cons]at h;have r:Ow (et T tk ct fr mn p::Ow ((A++B).map (et T tk ct fr mn))::L) μ:=by
  have g:=h.nest;rw[append_assoc]at g;have j:Ow (et T tk ct fr mn p::(A.map (et T tk ct fr mn)++(B.map (et T tk ct fr mn)++L))) μ:=Ow.xu (L1:=A.map (et T tk ct fr mn)) g;refine j.tail λy i=>Ow.pack ?_;rw[map_append,append_assoc];exact i
 obtain⟨F,g⟩:=Ow.ex r;exact⟨A,B,F,e,g.nest (L1:=[Pt (T.B p) 126 (gK T tk ct fr mn p F).pv,Hq T p])⟩
def cj.in_{p:Path}{A B:List Path}(e:T.D=A++p::B){F:Fls}(h:Ow (Pt (T.B p) 126 (gK T tk ct fr mn p F).pv::Hq T p::Ow ((A++B).map (et T tk ct fr mn))::L) μ):Ow (cj T tk ct fr mn::L) μ:=by
 have y:Ow (Ow [Pt (T.B p) 126 (gK T tk ct fr mn p F).pv,Hq T p]::Ow ((A++B).map (et T tk ct fr mn))::L) μ:=Ow.pack (L1:=[Pt (T.B p) 126 (gK T tk ct fr mn p F).pv,Hq T p]) h;have r:Ow (et T tk ct fr mn p::Ow ((A++B).map (et T tk ct fr mn))::L) μ:=y.imp λj g=>⟨F,g⟩;unfold cj;rw[e,map_append,map_cons];refine Ow.pack ?_;rw[append_assoc];refine Ow.Mu (L1:=A.map (et T tk ct fr mn)) (L:=B.map (et T tk ct fr mn)++L) (r.tail λj g=>?_);have i:=g.nest;rw[map_append,append_assoc]at i;exact i
def cj.congr{g:Path->List bY}{e:Path->List Nat}{i:Path->List bY}{j:Path->List Nat}{A:List Path}(h:∀q∈A,g q=tk q/\e q=ct q/\i q=fr q/\j q=mn q):A.map (et T g e i j)=A.map (et T tk ct fr mn):=
 List.map_congr_left λq r=>by
  obtain⟨H,G,C,y⟩:=h q r;unfold et gK;rw[H,G,C,y]
def cj.set{i:Path->List bY}{g:Path->List Nat}{j:Path->List bY}{r:Path->List Nat}{p:Path}{A B:List Path}(y:T.D.Nodup)(e:T.D=A++p::B){F:Fls}(G:∀q∈T.D,q≠p->i q=tk q/\g q=ct q/\j q=fr q/\r q=mn q)
  (h:Ow (Pt (T.B p) 126 (gK T i g j r p F).pv::Hq T p::Ow ((A++B).map (et T tk ct fr mn))::L) μ):Ow (cj T i g j r::L) μ:=by
 refine cj.in_ e (F:=F) ?_;rw[cj.congr (tk:=tk) (ct:=ct) (fr:=fr) (mn:=mn)]
 .exact h
 .intro q C;refine G q (by rw[e];rcases mem_append.1 C with h|h<;>simp[h]) λeq=>?_;subst eq;rw[e]at y;have:=nodup_append.1 y;rcases mem_append.1 C with h|h
  .exact this.2.2 q h q (by simp) rfl
  .exact(nodup_cons.1 this.2.1).1 h
def cj.same{g:Path->List bY}{e:Path->List Nat}{i:Path->List bY}{j:Path->List Nat}(r:∀q∈T.D,g q=tk q/\e q=ct q/\i q=fr q/\j q=mn q)(h:Ow (cj T tk ct fr mn::L) μ):Ow (cj T g e i j::L) μ:=by
 unfold cj at h |-;rw[cj.congr (tk:=tk) (ct:=ct) (fr:=fr) (mn:=mn) r];exact h
def cj.rd{p:Path}(hp:p∈T.D)(h:Ow (cj T tk ct fr mn::L) μ):∃F:Fls,μ (T.B p)=some (.cells 126 (gK T tk ct fr mn p F).pv):=by
 obtain⟨A,B,F,e,g⟩:=cj.out hp h;exact⟨F,g.get 0 rfl⟩
def cj.kid{p:Path}(hp:p∈T.D)(h:Ow (cj T tk ct fr mn::L) μ){i:Nat}(C:i<(T.K p).length):∃b,(T.S p).1=some ⟨b,0,none⟩/\ay μ b (0+i*1) 1=some [pP (T.B (p++[(T.K p)[i]])) 0]:=by
 obtain⟨A,B,F,e,G⟩:=cj.out hp h;have g:i<(ig T p).length:=by simpa using C
 obtain⟨b,ha,H,_⟩:=ca.at_ 1 G rfl (λr y=>by obtain⟨c,_,rfl⟩:=mem_map.1 y;rfl) (j:=i) g;refine⟨b,ha,?_⟩;have:=H 0 1 (by omega);simp only[getElem_map]at this;simpa using this
end
structure sf(T:Tree):Prop where
 nodup:T.D.Nodup
 root:[]∈T.D
 kids:∀p∈T.D,∀c,c∈T.K p↔p++[c]∈T.D
 IB:∀p∈T.D,(T.K p).Nodup
 up:∀p c,p++[c]∈T.D->p∈T.D
 len:∀p∈T.D,p.length<=16
 ZD:∀p∈T.D,tD p
 size:∀p∈T.D,ah p<=100
 ml:∀p c,p++[c]∈T.D->(T.M (p++[c])).length=aQ c
 m0:T.M []=[]
 EG:T.D.length<=5000
 mge:∀p∈T.D,∀j∈T.M p,-1<=j
def oH{p:Path}(h:p≠[]):∃q c,p=q++[c]:=⟨p.dropLast,p.getLast h,(List.dropLast_concat_getLast h).symm⟩
def sf.pre{T:Tree}(h:sf T)(r s:Path):s++r∈T.D->s∈T.D:=by
 have key:∀(n:Nat) (r s:Path),r.length<=n->s++r∈T.D->s∈T.D:=by
  intro n;induction n with
  |zero=>
   intro r s i g;have:r=[]:=List.eq_nil_of_length_eq_zero (by omega);subst this;simpa using g
  |succ n j=>
   intro r s i g;by_cases e:r=[]
   .subst e;simpa using g
   .obtain⟨q,c,rfl⟩:=oH e;rw[<- append_assoc]at g;exact j q s (by simp at i;omega) (h.up _ _ g)
 exact key r.length r s (le_refl _)
def sf.below{T:Tree}(h:sf T){p q:Path}(hp:p∈T.D)(g:q∈T.D):(p <+: q/\q≠p)↔∃c∈T.K p,(p++[c]) <+: q:=by
 constructor
 .rintro⟨⟨r,rfl⟩,i⟩;cases r with
  |nil=>simp at i
  |cons c r=>
   refine⟨c,(h.kids p hp c).2 ?_,⟨r,by simp⟩⟩;exact h.pre r (p++[c]) (by simpa using g)
 .rintro⟨c,hc,r,rfl⟩;exact⟨⟨c::r,by simp⟩,λe=>by have:=congrArg List.length e;simp at this⟩
def sf.OG{T:Tree}(h:sf T){p q:Path}(e:q∈T.D)(hp:p <+: q):p∈T.D:=by
 obtain⟨r,rfl⟩:=hp;exact h.pre r p e
def OL{e:Type}[DecidableEq e]{a b:List e}(ha:a.Nodup)(g:b.Nodup)(h:∀x,x∈a↔x∈b):a.length=b.length:=((List.perm_ext_iff_of_nodup ha g).2 h).length_eq
def under(l:List ae)(p q:Path):Bool:=l.any λc=>decide ((p++[c]) <+: q)
def mix{e:Type}(l:List ae)(p:Path)(f g:Path->e):Path->e:=λq=>if under l p q then f q else g q
def aI{e:Type}(f:Path->e)(p:Path)(v:e):Path->e:=λq=>if q=p then v else f q
@[simp] theorem cB{e:Type}(f:Path->e)(p:Path)(v:e):aI f p v p=v:=by simp[aI]
def aS{e:Type}{f:Path->e}{p q:Path}{v:e}(h:q≠p):aI f p v q=f q:=by simp[aI,h]
def gH{l:List ae}{p q:Path}:under l p q=true↔∃c∈l,(p++[c]) <+: q:=by
 unfold under;rw[List.any_eq_true];simp
def sf.Sh{T:Tree}(h:sf T){p:Path}(hp:p∈T.D){i:Nat}(e:i<(T.K p).length):p++[(T.K p)[i]]∈T.D:=(h.kids p hp _).1 (getElem_mem e)
def jE{e:Type}[DecidableEq e]:∀{a b:List e},a.Nodup->(∀x∈a,x∈b)->a.length<=b.length:=by
 intro a;induction a with
 |nil=>intro b _ _;exact Nat.zero_le _
 |cons x a j=>
  intro b r i;obtain⟨C,A⟩:=nodup_cons.1 r;have h:=i x (by simp);have:=j (b:=b.erase x) A λy g=>(List.mem_erase_of_ne (by rintro rfl;exact C g)).2 (i y (by simp[g]));rw[List.length_erase_of_mem h]at this;have hp:0<b.length:=List.length_pos_of_mem h;simp only[length_cons];omega
def sf.kl{T:Tree}(h:sf T){p:Path}(hp:p∈T.D):(T.K p).length<=T.D.length:=by
 have g:((T.K p).map λc=>p++[c]).Nodup:=List.Pairwise.map _ (λa b i e=>i (by simpa using e)) (h.IB p hp);have r:=jE g (b:=T.D) λx j=>by
  obtain⟨c,hc,rfl⟩:=mem_map.1 j;exact(h.kids p hp c).1 hc
 simpa using r
def Ra{p q:Path}{c d:ae}(h:(p++[c]) <+: q)(g:(p++[d]) <+: q):c=d:=by
 have i:p++[c]=p++[d]:=by
  rcases List.prefix_or_prefix_of_prefix h g with e|e
  .exact e.eq_of_length (by simp)
  .exact(e.eq_of_length (by simp)).symm
 simpa using i
def sf.step{T:Tree}(h:sf T){p:Path}(hp:p∈T.D){i:Nat}(A:i<(T.K p).length){q:Path}(r:q∈T.D):
  (q=p++[(T.K p)[i]]/\under ((T.K p).take i) p q=false/\under (T.K (p++[(T.K p)[i]])) (p++[(T.K p)[i]]) q=false/\under ((T.K p).take (i+1)) p q=true)\/
  (q≠p++[(T.K p)[i]]/\under (T.K (p++[(T.K p)[i]])) (p++[(T.K p)[i]]) q=true/\under ((T.K p).take i) p q=false/\under ((T.K p).take (i+1)) p q=true)\/
  (q≠p++[(T.K p)[i]]/\under (T.K (p++[(T.K p)[i]])) (p++[(T.K p)[i]]) q=false/\under ((T.K p).take (i+1)) p q=under ((T.K p).take i) p q):=by
 have y:=h.Sh hp A;have G:∀q,(p++[(T.K p)[i]]) <+: q->under ((T.K p).take i) p q=false:=λq r=>by
  cases hu:under ((T.K p).take i) p q with
  |false=>rfl
  |true=>
   obtain⟨c,hc,J⟩:=gH.1 hu;have e:=Ra J r;subst e;obtain⟨j,I,e⟩:=List.mem_iff_getElem.1 hc;rw[List.getElem_take]at e;have H:j<i:=by rw[length_take]at I;omega
   have:=(List.getElem_inj (h.IB p hp) (h₀:=by omega) (h₁:=A)).1 e;omega
 have C:under ((T.K p).take (i+1)) p q=(under ((T.K p).take i) p q||decide ((p++[(T.K p)[i]]) <+: q)):=by
  unfold under;rw[take_add_one,getElem?_eq_getElem A,List.any_append];simp
 by_cases e:q=p++[(T.K p)[i]]
 .left;have g:(p++[(T.K p)[i]]) <+: q:=by rw[e];exact List.prefix_refl _
  refine⟨e,G q g,?_,by rw[C];simp[g]⟩;cases hu:under (T.K (p++[(T.K p)[i]])) (p++[(T.K p)[i]]) q with
  |false=>rfl
  |true=>exact absurd e ((h.below y r).2 (gH.1 hu)).2
 .right;by_cases g:(p++[(T.K p)[i]]) <+: q
  .left;exact⟨e,gH.2 ((h.below y r).1 ⟨g,e⟩),G q g,by rw[C];simp[g]⟩
  .right;refine⟨e,?_,by rw[C];simp[g]⟩;cases hu:under (T.K (p++[(T.K p)[i]])) (p++[(T.K p)[i]]) q with
   |false=>rfl
   |true=>exact absurd ((h.below y r).2 (gH.1 hu)).1 g
section
variable {T:Tree} {fr:Path->List bY} {mn:Path->List Nat}
def Xc(h:sf T):∀(n:Nat) (p:Path) (tk:Path->List bY) (ct:Path->List Nat) (fr:Path->List bY) (mn:Path->List Nat),p∈T.D->17-p.length<=n->∀{L:List aO} {μ:Mem},Ow (cj T tk ct fr mn::L) μ->∀{K:Kq},(∀j,Ow (cj T (mix (T.K p) p fr tk) (mix (T.K p) p mn ct) (mix (T.K p) p (λ_=>[]) fr) (mix (T.K p) p (λ_=>[]) mn)::L) j->K (.aB []) j)->aa prog 82 [pP (T.B p) 0] μ K:=by
 intro n;induction n with
 |zero=>intro p tk ct fr mn hp hn;have:=h.len p hp;omega
 |succ n ih=>
  intro p tk ct fr mn hp hn L μ O K hk;obtain⟨F,hF⟩:=cj.rd hp O;refine DE.c ⟨_,_,_,aH hF (by simp),?_⟩;have Hu:=h.kl hp;have BV:=h.EG
  .refine ak.each (n:=(T.K p).length) (by omega) (λi u=>Ow (cj T (mix ((T.K p).take i) p fr tk) (mix ((T.K p).take i) p mn ct) (mix ((T.K p).take i) p (λ_=>[]) fr) (mix ((T.K p).take i) p (λ_=>[]) mn)::L) u) ?_ ?_ ?_
   .exact cj.same (λq _=>by simp[mix,under]) O
   .rintro i u next r y au
    have J:=h.Sh hp r;obtain⟨b,hb,dF⟩:=cj.kid hp y r;dsimp only[gK];rw[hb];refine ab.t (by simpa using r) ⟨by omega,by simpa using r,_,by simpa using dF,?_⟩;obtain⟨A,B,g,e,U⟩:=cj.out J y;dsimp only[nP,nn,aM];refine⟨_,_,U.rd 0 rfl (by simp),?_⟩;refine U.st 0 rfl (by simp) λu1 Q=>?_;refine⟨_,_,Q.rd 0 rfl (by simp[du]),?_⟩;refine Q.st 0 rfl (by simp[du]) λu2 h5=>?_;refine h5.st 0 rfl (by simp[du]) λu3 h6=>?_;refine h6.st 0 rfl (by simp[du]) λY h7=>?_;have h8:Ow (cj T (aI (mix ((T.K p).take i) p fr tk) (p++[(T.K p)[i]]) (mix ((T.K p).take i) p (λ_=>[]) fr (p++[(T.K p)[i]]))) (aI (mix ((T.K p).take i) p mn ct) (p++[(T.K p)[i]]) (mix ((T.K p).take i) p (λ_=>[]) mn (p++[(T.K p)[i]]))) (aI (mix ((T.K p).take i) p (λ_=>[]) fr) (p++[(T.K p)[i]]) []) (aI (mix ((T.K p).take i) p (λ_=>[]) mn) (p++[(T.K p)[i]]) [])::L) Y:=by
     refine cj.set (F:=⟨g.a,g.v,g.c,g.m,g.f,g.q,.nil,.nil⟩) h.nodup e (λq _ H=>⟨aS H,aS H,aS H,aS H⟩) ?_;have e2:(gK T (aI (mix ((T.K p).take i) p fr tk) (p++[(T.K p)[i]]) (mix ((T.K p).take i) p (λ_=>[]) fr (p++[(T.K p)[i]]))) (aI (mix ((T.K p).take i) p mn ct) (p++[(T.K p)[i]]) (mix ((T.K p).take i) p (λ_=>[]) mn (p++[(T.K p)[i]]))) (aI (mix ((T.K p).take i) p (λ_=>[]) fr) (p++[(T.K p)[i]]) []) (aI (mix ((T.K p).take i) p (λ_=>[]) mn) (p++[(T.K p)[i]]) []) (p++[(T.K p)[i]]) ⟨g.a,g.v,g.c,g.m,g.f,g.q,.nil,.nil⟩).pv=du (du (du (du (gK T (mix ((T.K p).take i) p fr tk) (mix ((T.K p).take i) p mn ct) (mix ((T.K p).take i) p (λ_=>[]) fr) (mix ((T.K p).take i) p (λ_=>[]) mn) (p++[(T.K p)[i]]) g).pv 9 [.list 2 g.f ((mix ((T.K p).take i) p (λ_=>[]) fr (p++[(T.K p)[i]])).map bY.pv)]) 10 [.list 1 g.q ((mix ((T.K p).take i) p (λ_=>[]) mn (p++[(T.K p)[i]])).map kD)]) 12 [.list 2 .nil []]) 13 [.list 1 .nil []]:=by
      unfold gK mr.pv;simp only[cB];rfl
     rw[e2];exact h7
    refine ih _ _ _ _ _ J (by simp;omega) h8 λu5 h9=>⟨rfl,au _ (cj.same (λq hq=>?_) h9)⟩;rcases h.step hp r hq with⟨e,G,C,I⟩|⟨e,G,C,I⟩|⟨e,G,C⟩
    .subst e;simp[mix,aI,G,C,I]
    .simp[mix,aI,e,G,C,I]
    .simp[mix,aI,e,G,C]
   .rintro u next y
    refine ab.f (by simp) ?_;rw[take_length]at y;exact hk u y
end
def Oj{es:List aj}{c:ae}(A:cU c){ts:List bY}{a b:Nat}(h:∀t∈ts,t.binds.length<=a/\t.tags.length<=b):∀t∈stepT es c ts,t.binds.length<=a+100*aQ c/\t.tags.length<=b+1:=by
 intro t g;obtain⟨_,O,J,_⟩:=(bJ c).1 A;have Q:1<=aQ c:=by rw[bN];omega
 unfold stepT at g;split at g
 .obtain⟨i,I,r⟩:=List.mem_flatMap.1 g;obtain⟨y,j,rfl⟩:=mem_map.1 r;obtain⟨G,C⟩:=h i I;unfold aY at j;obtain⟨H,_,e⟩:=List.mem_filterMap.1 j;cases hc:dg c H i.binds with
  |none=>rw[hc]at e;cases e
  |some q=>
   rw[hc]at e;simp only[Option.map_some,Option.some.injEq]at e;subst e;have:=EN hc;simp only[length_append,List.length_singleton];omega
 .obtain⟨G,C⟩:=h t (mem_filter.1 g).1;omega
def xE{es:List aj}:∀{p:Path},bO p->∀t∈aE es p,t.binds.length<=100*ah p/\t.tags.length<=p.length:=by
 have key:∀(n:Nat) (p:Path),p.length=n->bO p->∀t∈aE es p,t.binds.length<=100*ah p/\t.tags.length<=p.length:=by
  intro n;induction n with
  |zero=>
   intro p hp _ t e;have:p=[]:=List.eq_nil_of_length_eq_zero hp;subst this;simp only[aE,List.foldl_nil,mem_singleton]at e;subst e;simp[Ff]
  |succ n i=>
   intro p hp g t e;obtain⟨q,c,rfl⟩:=oH (p:=p) (by rintro rfl;simp at hp);have h:=cG.1 g;rw[dv]at e;have:=Oj (h c (by simp)) (i q (by simpa using hp) (cG.2 λd j=>h d (by simp[j]))) t e;rw[kY];simp only[ah,length_append,List.length_singleton];omega
 intro p g;exact key _ p rfl g
def gA(es:List aj)(p:Path):List Nat:=if p=[]then[]else km es (Iz p) (aE es p.dropLast)
def jL(es:List aj)(p:Path)(c:ae):gA es (p++[c])=km es c (aE es p):=by
 unfold gA;rw[if_neg (by simp),oX,List.dropLast_concat]
section
variable {T:Tree} {tk:Path->List bY} {ct:Path->List Nat} {fr:Path->List bY} {mn:Path->List Nat}
def O_(S:List RN.El)(j:Int):Prop:=∃s∈S,s.1=j
theorem TB{p:Path}{bl:Nat}{S:List RN.El}(hM:∀j∈T.M p,-1<=j/\j<1000000)(hm:(T.M p).length<=1000)(hp:p∈T.D)(hS:ch RN.ck RN.key S)(Yz:S.length<=1000000000){L:List aO}{μ:Mem}(hO:Ow (cj T tk ct fr mn::RN.At bl S::L) μ){K:Kq}
  (h1:(∃j∈T.M p,O_ S j)->K (pB true) μ) (h0:(∀j∈T.M p,¬O_ S j)->K (pB false) μ):aa prog 137 [pP (T.B p) 0,pP bl 0] μ K:=by
 obtain⟨F,hF⟩:=cj.rd hp hO;refine CJ.c ⟨_,_,aH hF (by simp),?_⟩;refine ak.each (n:=(T.M p).length) (by omega) (λk u=>u=μ/\∀j∈(T.M p).take k,¬O_ S j) ⟨rfl,by simp⟩ ?_ ?_
 .rintro k u next hk ⟨rfl,cM⟩ au
  have hj:=hM _ (getElem_mem hk);refine ab.t (by simpa using hk) ⟨by omega,_,tK hk,_,rfl,?_⟩;refine RN.rl (Ow.swap hO) hS (by omega) ⟨(T.M p)[k],hj⟩ ⟨_,_,rfl,?_⟩;refine ab.mk (λhs=>h1 ⟨(T.M p)[k],getElem_mem hk,?_⟩) (λhs=>au _ ⟨rfl,λj CU=>?_⟩)
  .obtain⟨s,hs⟩:=Option.isSome_iff_exists.1 hs;obtain⟨a1,a2⟩:=(bf RN.hc hS).1 hs;exact⟨s,a1,a2⟩
  .rw[take_add_one,getElem?_eq_getElem hk,mem_append]at CU;rcases CU with CU|CU
   .exact cM j CU
   .simp only[Option.toList_some,mem_singleton]at CU;subst CU;rintro⟨s,a1,a2⟩;have:aL RN.ck RN.key (T.M p)[k] S=some s:=(bf RN.hc hS).2 ⟨a1,a2⟩;have Qm:(aL RN.ck RN.key (T.M p)[k] S).isSome=false:=hs;rw[this]at Qm;cases Qm
 .rintro u next ⟨rfl,cM⟩
  rw[take_length]at cM;exact ab.f (by simp) (h0 cM)
variable {n:Nat} {x:NC} {es fs:List aj} {ms:dq} {ids:pq}
structure XB(T:Tree)(B:Int)(es:List aj)(tk:Path->List bY)(ct:Path->List Nat):Prop where
 tok:∀p∈T.D,tk p=aE es p
 cnt:∀p c,p++[c]∈T.D->ct (p++[c])=km es c (aE es p)
 le:∀p c,p++[c]∈T.D->∀j,((dI es c (aE es p) j:Nat):Int)<=B
def sf.OJ{T:Tree}(h:sf T){p:Path}{c:ae}(hp:p++[c]∈T.D):tE c/\aQ c<=100:=by
 have g:=lQ.1 (h.ZD _ hp) c (by simp);have e:=h.size _ hp;rw[kY]at e;simp only[ah]at e;exact⟨g,by omega⟩
theorem afn(h:sf T)(hA:dE fs ms)(hI:jn fs ids)(hT:0<=x.T/\x.T<=1000000)(Gl:XB T x.T es tk ct){bl:Nat}{S:List RN.El}(hS:ch RN.ck RN.key S)(Yz:S.length<=1000000000)(tY:∀p c,p++[c]∈T.D->kG ms (T.M (p++[c])) 0 c)(hM:∀p∈T.D,∀j∈T.M p,-1<=j/\j<1000000)
  (aao:∀y∈ms,¬O_ S y.1->es.filter (bj y.2.c)=fs.filter (bj y.2.c)):
  ∀(n1:Nat) (p:Path) (fr:Path->List bY) (mn:Path->List Nat) (fl:Fl) (Us:Bool),p∈T.D->17-p.length<=n1->(aE fs p).length<=1000001->(Us=false->aE es p=aE fs p)->∀{L:List aO} {μ:Mem},Ow (an n x fs ms ids::cj T tk ct fr mn::RN.At bl S::L) μ->∀{K:Kq},
  ((∀q c,q++[c]∈T.D->p <+: q->∀j,((dI fs c (aE fs q) j:Nat):Int)<=x.T)->∀μ',Ow (an n x fs ms ids::cj T tk ct (mix (T.K p) p (aE fs) fr) (mix (T.K p) p (gA fs) mn)::RN.At bl S::L) μ'->K (pB true) μ')->
  ((∃q c j,q++[c]∈T.D/\x.T<((dI fs c (aE fs q) j:Nat):Int))->∀oc nG μ',Ow (an n x fs ms ids::cj T tk ct oc nG::RN.At bl S::L) μ'->K (pB false) μ')->
  aa prog 81 [pP n 0,pP (T.B p) 0,.list 2 fl ((aE fs p).map bY.pv),pB Us,pP bl 0] μ K:=by
 intro n1;induction n1 with
 |zero=>intro p fr mn fl Us hp hn;have:=h.len p hp;omega
 |succ n1 ih=>
  intro p fr mn fl Us hp hn nH sR L μ hO K jJ Wy;have Hu:=h.kl hp;have BV:=h.EG;obtain⟨F,hF⟩:=cj.rd hp (Ow.swap hO);refine zU.c ⟨_,_,_,aH hF (by simp),?_⟩;refine ak.each (n:=(T.K p).length) (by omega) (λi u=>(∀q c,q++[c]∈T.D->under ((T.K p).take i) p (q++[c])=true->∀j,((dI fs c (aE fs q) j:Nat):Int)<=x.T)/\Ow (an n x fs ms ids::cj T tk ct (mix ((T.K p).take i) p (aE fs) fr) (mix ((T.K p).take i) p (gA fs) mn)::RN.At bl S::L) u) ⟨λq c _ hu=>by simp[under]at hu,?_⟩ ?_ ?_
  .exact Ow.swap (cj.same (λq _=>by simp[mix,under]) (Ow.swap hO))
  .rintro i u next hi ⟨hC,h2⟩ au
   have tW:=h.Sh hp hi;have Ns:=Ow.swap h2;obtain⟨b,hb,dF⟩:=cj.kid hp Ns hi;generalize hFi:mix ((T.K p).take i) p (aE fs) fr=Fi at h2 Ns;generalize hMi:mix ((T.K p).take i) p (gA fs) mn=Mi at h2 Ns;generalize hc:(T.K p)[i]=c at*
   obtain⟨eH,Wn⟩:=h.OJ tW;dsimp only[gK];rw[hb];refine ab.t (by simpa using hi) ⟨by omega,by simpa using hi,_,by simpa using dF,?_⟩;dsimp only[nP,nn,aM];obtain⟨A,B,F1,e,h3⟩:=cj.out tW Ns;refine⟨_,_,h3.rd 0 rfl (by simp),?_⟩;refine h3.st 0 rfl (by simp) λu1 h4=>?_;refine⟨_,_,h4.rd 0 rfl (by simp[du]),?_⟩;refine h4.st 0 rfl (by simp[du]) λu2 h5=>?_;have h6:Ow (an n x fs ms ids::cj T tk ct (aI Fi (p++[c]) (tk (p++[c]))) (aI Mi (p++[c]) (ct (p++[c])))::RN.At bl S::L) u2:=by
    refine Ow.swap (cj.set (F:=⟨F1.a,F1.v,F1.c,F1.m,F1.t,F1.k,F1.t,F1.k⟩) h.nodup e (tk:=tk) (ct:=ct) (fr:=Fi) (mn:=Mi) (λq _ aW=>⟨rfl,rfl,aS aW,aS aW⟩) ?_);have e2:(gK T tk ct (aI Fi (p++[c]) (tk (p++[c]))) (aI Mi (p++[c]) (ct (p++[c]))) (p++[c]) ⟨F1.a,F1.v,F1.c,F1.m,F1.t,F1.k,F1.t,F1.k⟩).pv=du (du (gK T tk ct Fi Mi (p++[c]) F1).pv 12 [.list 2 F1.t ((tk (p++[c])).map bY.pv)]) 13 [.list 1 F1.k ((ct (p++[c])).map kD)]:=by
     unfold gK mr.pv;simp only[cB];rfl
    rw[e2];exact h5
   have hmp:(T.M (p++[c])).length<=1000:=by rw[h.ml p c tW];omega
   have adS:=Gl.tok _ tW;rw[dv]at adS;have SQ:=Gl.cnt p c tW;refine⟨λs u=>(s=true\/(s=false/\Us=false/\∀j∈T.M (p++[c]),¬O_ S j))/\Ow (an n x fs ms ids::cj T tk ct (aI Fi (p++[c]) (tk (p++[c]))) (aI Mi (p++[c]) (ct (p++[c])))::RN.At bl S::L) u,ab.mk (λha=>⟨.inl rfl,h6⟩) (λha=>?_),?_⟩
   .have h7:Ow (cj T tk ct (aI Fi (p++[c]) (tk (p++[c]))) (aI Mi (p++[c]) (ct (p++[c])))::RN.At bl S::an n x fs ms ids::L) u2:=Ow.ord [1,1,0] h6;exact TB (hM _ tW) hmp tW hS Yz h7 (λ_=>⟨_,rfl,.inl rfl,h6⟩) (λcM=>⟨_,rfl,.inr ⟨rfl,ha,cM⟩,h6⟩)
   .rintro s u3 ⟨hs,h7⟩;have Yo:s=false->nW es fs c/\aE es p=aE fs p:=λes0=>by
     rcases hs with e|⟨_,ha,cM⟩
     .rw[es0]at e;cases e
     .refine⟨Tg (ms:=ms) (aC:=T.M (p++[c])) (λk hk y hy=>?_) c 0 (tY p c tW),sR ha⟩;obtain⟨Ni,Gc⟩:=(bf ar hA.nD).1 hy;have Gc:y.1=k:=Gc;exact aao y Ni (by rw[Gc];exact cM k hk)
    refine⟨λ_ u=>(∀j,((dI fs c (aE fs p) j:Nat):Int)<=x.T)/\Ow (an n x fs ms ids::cj T tk ct (aI Fi (p++[c]) (aE fs (p++[c]))) (aI Mi (p++[c]) (gA fs (p++[c])))::RN.At bl S::L) u,ab.mk (λfF=>?_) (λhsf=>?_),?_⟩
    .obtain⟨A2,B2,F2,e2,h8⟩:=cj.out tW (Ow.swap h7);have h9:Ow (an n x fs ms ids::Pt (T.B (p++[c])) 126 (gK T tk ct (aI Fi (p++[c]) (tk (p++[c]))) (aI Mi (p++[c]) (ct (p++[c]))) (p++[c]) F2).pv::Hq T (p++[c])::Ow ((A2++B2).map (et T tk ct (aI Fi (p++[c]) (tk (p++[c]))) (aI Mi (p++[c]) (ct (p++[c])))))::RN.At bl S::L) u3:=Ow.ord [3] h8;have IN:(gK T tk ct (aI Fi (p++[c]) (tk (p++[c]))) (aI Mi (p++[c]) (ct (p++[c]))) (p++[c]) F2).c=c:=oX p c;have se:=oO (h.ZD p hp);have fK:=h.size p hp;have hbb:=xE (es:=fs) se;have hln:=h.len p hp;refine NF (n:=n) (x:=x) (ids:=ids) hA hI hT (xb:=T.B (p++[c])) (gK T tk ct (aI Fi (p++[c]) (tk (p++[c]))) (aI Mi (p++[c]) (ct (p++[c]))) (p++[c]) F2) (by rw[IN];exact eH) (by rw[IN];exact Wn) (by rw[IN];exact tY p c tW) (by rw[IN];exact h.ml p c tW) (aE fs p) _ nH (λt ht=>by have:=hbb t ht;omega) h9 (λhle f u4 rR=>?_) (λYq u4 rR=>?_)
     .rw[IN]at hle |-;refine⟨_,_,_,_,_,rfl,ab.f rfl ?_⟩;have BY:Ow (Pt (T.B (p++[c])) 126 (gK T tk ct (aI Fi (p++[c]) (tk (p++[c]))) (aI Mi (p++[c]) (ct (p++[c]))) (p++[c]) F2).pv::Hq T (p++[c])::Ow ((A2++B2).map (et T tk ct (aI Fi (p++[c]) (tk (p++[c]))) (aI Mi (p++[c]) (ct (p++[c])))))::an n x fs ms ids::RN.At bl S::L) u4:=Ow.ord [1,1,1,0] rR;dsimp only[nP,nn,aM];refine BY.st 0 rfl (by simp) λu5 lp=>?_;refine lp.st 0 rfl (by simp[du]) λu6 xA=>⟨hle,?_⟩;refine Ow.swap (cj.set (F:=⟨F2.a,F2.v,F2.c,F2.m,F2.t,F2.k,f,.sh⟩) h.nodup e2 (tk:=tk) (ct:=ct) (fr:=aI Fi (p++[c]) (tk (p++[c]))) (mn:=aI Mi (p++[c]) (ct (p++[c]))) (λq _ aW=>⟨rfl,rfl,by rw[aS aW,aS aW],by rw[aS aW,aS aW]⟩) ?_);have e3:(gK T tk ct (aI Fi (p++[c]) (aE fs (p++[c]))) (aI Mi (p++[c]) (gA fs (p++[c]))) (p++[c]) ⟨F2.a,F2.v,F2.c,F2.m,F2.t,F2.k,f,.sh⟩).pv=du (du (gK T tk ct (aI Fi (p++[c]) (tk (p++[c]))) (aI Mi (p++[c]) (ct (p++[c]))) (p++[c]) F2).pv 12 [.list 2 f ((stepT fs c (aE fs p)).map bY.pv)]) 13 [.list 1 .sh ((km fs c (aE fs p)).map kD)]:=by
       unfold gK mr.pv;simp only[cB,dv,jL];rfl
      rw[e3];exact xA
     .rw[IN]at Yq;obtain⟨j,hj⟩:=Yq;refine⟨_,_,_,_,_,rfl,ab.t rfl (Wy ⟨p,c,j,tW,hj⟩ (aI Fi (p++[c]) (tk (p++[c]))) (aI Mi (p++[c]) (ct (p++[c]))) u4 ?_)⟩;exact Ow.swap (cj.in_ e2 (F:=F2) (Ow.ord [1,1,1,0] rR))
    .obtain⟨zM,xv⟩:=Yo hsf;refine⟨λj=>?_,?_⟩
     .rw[<- ER zM,<- xv];exact Gl.le p c tW j
     .have e1:tk (p++[c])=aE fs (p++[c]):=by rw[adS,dv,xv,AV zM]
      have e2:ct (p++[c])=gA fs (p++[c]):=by
       rw[SQ,jL,xv];unfold km;exact List.map_congr_left λj _=>ER zM _ j
      rw[<- e1,<- e2];exact h7
    .rintro _ u4 ⟨hle,h8⟩;obtain⟨F3,hF3⟩:=cj.rd tW (Ow.swap h8);refine⟨_,_,aH hF3 (by simp),?_⟩;have WG:(gK T tk ct (aI Fi (p++[c]) (aE fs (p++[c]))) (aI Mi (p++[c]) (gA fs (p++[c]))) (p++[c]) F3).fr=aE fs (p++[c]):=cB _ _ _;rw[WG];have hlen:(aE fs (p++[c])).length<=1000001:=by
      have:=hle 0;rw[jM]at this;rw[dv];omega
     refine ih (p++[c]) _ _ _ s tW (by simp;omega) hlen (λhsf=>?_) h8 (λhC2 u5 h9=>⟨_,rfl,ab.f rfl (au _ ⟨λq d hq hu j=>?_,?_⟩)⟩) (λYq oc nG u5 h9=>⟨_,rfl,ab.t rfl (Wy Yq oc nG u5 h9)⟩)
     .obtain⟨zM,xv⟩:=Yo hsf;rw[dv,dv,xv,AV zM]
     .rcases h.step hp hi hq with⟨e,a1,a2,a3⟩|⟨e,a1,a2,a3⟩|⟨e,a1,a2⟩
      .rw[hc]at e;obtain⟨e1,e2⟩:=append_inj' e rfl;simp only[List.cons.injEq,and_true]at e2;rw[e1,e2];exact hle j
      .rw[hc]at e a1;obtain⟨fD,aW⟩:=(h.below tW hq).2 (gH.1 a1);refine hC2 q d hq ?_ j;obtain⟨r,hr⟩:=fD;cases Ex:r.getLast? with
       |none=>
        rw[List.getLast?_eq_none_iff]at Ex;subst Ex;rw[append_nil]at hr;exact absurd hr.symm aW
       |some z=>
        obtain⟨r',yd⟩:=List.getLast?_eq_some_iff.1 Ex;rw[yd,<- append_assoc]at hr;obtain⟨e1,_⟩:=append_inj' hr rfl;exact⟨r',e1⟩
      .rw[a2]at hu;exact hC q d hq hu j
     .refine Ow.swap (cj.same (λq hq=>?_) (Ow.swap h9));have cV:=h.step hp hi hq;rw[hc]at cV;rw[<- hFi,<- hMi];rcases cV with⟨e,a1,a2,a3⟩|⟨e,a1,a2,a3⟩|⟨e,a1,a2⟩
      .subst e;simp[mix,aI,a1,a2,a3]
      .simp[mix,aI,e,a1,a2,a3]
      .simp[mix,aI,e,a1,a2]
  .rintro u next ⟨hC,h2⟩
   refine ab.f (by simp) ?_;rw[take_length]at hC h2;refine jJ (λq c hq fD j=>hC q c hq (gH.2 ((h.below hp hq).1 ⟨fD.trans (List.prefix_append _ _),λe=>?_⟩)) j) u h2;have h4:=fD.length_le;have h5:=congrArg List.length e;simp at h5;omega
end
structure jz(B:Int)(T:Tree)(es:List aj)(ms:dq)(tk:Path->List bY)(ct:Path->List Nat):Prop where
 tree:sf T
 use:fE es ms (T.D.flatMap T.M)
 fit:∀p c,p++[c]∈T.D->kG ms (T.M (p++[c])) 0 c
 dW:XB T B es tk ct
def jz.adq{B:Int}{T:Tree}{es:List aj}{ms:dq}{tk:Path->List bY}{ct:Path->List Nat}(h:jz B T es ms tk ct):(T.D.flatMap T.M).length<=500000:=by
 rw[List.length_flatMap];have:∀D:List Path,(∀p∈D,(T.M p).length<=100)->(D.map λp=>(T.M p).length).sum<=100*D.length:=by
  intro D;induction D with
  |nil=>intro _;simp
  |cons p D g=>
   intro h;have j:=h p (by simp);have r:=g λq i=>h q (by simp[i]);simp only[map_cons,sum_cons,length_cons];omega
 have j:=this T.D λp hp=>?_
 .have:=h.tree.EG;omega
 .by_cases e:p=[]
  .subst e;rw[h.tree.m0];simp
  .obtain⟨q,c,rfl⟩:=oH e;rw[h.tree.ml q c hp];exact(h.tree.OJ hp).2
section
variable {T:Tree} {tk:Path->List bY} {ct:Path->List Nat} {fr:Path->List bY} {mn:Path->List Nat}
def cj.inj{L:List aO}{μ:Mem}{p q:Path}(hp:p∈T.D)(C:q∈T.D)(h:Ow (cj T tk ct fr mn::L) μ)(e:T.B p=T.B q):p=q:=by
 obtain⟨A,B,F,eD,H⟩:=cj.out hp h;by_cases I:q=p
 .exact I.symm
 .exfalso;have hm:q∈A++B:=by
   rw[eD,mem_append,List.mem_cons]at C;rcases C with h|h|h
   .simp[h]
   .exact absurd h I
   .simp[h]
  obtain⟨A2,B2,e2⟩:=append_of_mem (List.mem_map_of_mem (f:=et T tk ct fr mn) hm);rw[e2]at H;obtain⟨i,U,hs,rfl,r,h2⟩:=H;obtain⟨g,Q,Ao,rfl,hV,h3⟩:=h2;obtain⟨O,J,hs3,rfl,h4,h5⟩:=h3;obtain⟨σ,j,fL⟩:=h4.mem (et T tk ct fr mn q) (by simp);obtain⟨F2,h6⟩:=j;have h7:=h6.get 0 rfl;have y:=fL _ _ h7;have r:i (T.B p)=_:=r;rw[<- e]at y;have G:=(hs (T.B p)).resolve_left (by rw[r];simp);have Y:g (T.B p)=none:=by
   rcases Ao (T.B p)with h|h
   .exact h
   .rw[Mem.bB y]at h;cases h
  rw[Mem.bp Y,Mem.bB y]at G;cases G
end
def Tree.del(T:Tree)(q:Path)(c:ae):Tree:=⟨T.D.filter λr=>decide (r≠q++[c]),T.B,T.M,T.E,aI T.K q ((T.K q).filter λd=>decide (d≠c)),T.S⟩
def sf.del{T:Tree}(h:sf T){q:Path}{c:ae}(j:q++[c]∈T.D)(C:T.K (q++[c])=[]):sf (T.del q c):=by
 have A:=h.up _ _ j;have g:∀r,r∈(T.del q c).D↔r∈T.D/\r≠q++[c]:=λr=>by unfold Tree.del;simp
 have hK:∀p,p∈(T.del q c).D->∀d,d∈(T.del q c).K p↔p++[d]∈(T.del q c).D:=λp hp d=>by
  obtain⟨y,G⟩:=(g p).1 hp;rw[g];show d∈aI T.K q _ p↔_;by_cases e:p=q
  .subst e;rw[cB,mem_filter,h.kids p y d];simp
  .rw[aS e,h.kids p y d];refine⟨λi=>⟨i,λH=>e ?_⟩,λi=>i.1⟩;exact(append_inj' H rfl).1
 refine⟨h.nodup.filter _,(g _).2 ⟨h.root,by simp⟩,hK,λp hp=>?_,λp d i=>?_,λp hp=>h.len p ((g p).1 hp).1,λp hp=>h.ZD p ((g p).1 hp).1,λp hp=>h.size p ((g p).1 hp).1,λp d i=>h.ml p d ((g _).1 i).1,h.m0,Nat.le_trans (List.length_filter_le _ _) h.EG,λp hp=>h.mge p ((g p).1 hp).1⟩
 .show(aI T.K q _ p).Nodup;by_cases e:p=q
  .subst e;rw[cB];exact(h.IB p A).filter _
  .rw[aS e];exact h.IB p ((g p).1 hp).1
 .obtain⟨y,G⟩:=(g _).1 i;refine(g p).2 ⟨h.up _ _ y,λe=>?_⟩;subst e;have:=(h.kids _ j d).2 y;rw[C]at this;cases this
def To{T:Tree}(h:sf T){p:Path}(hp:p∈T.D):(T.D.flatMap T.M).Perm (T.M p++(T.D.filter λr=>decide (r≠p)).flatMap T.M):=by
 obtain⟨A,B,e⟩:=append_of_mem hp;have g:=h.nodup;rw[e]at g;obtain⟨G,y,j⟩:=nodup_append.1 g;have i:=(nodup_cons.1 y).1;have C:T.D.filter (λr=>decide (r≠p))=A++B:=by
  rw[e,filter_append,filter_cons,if_neg (by simp)];congr 1
  .exact filter_eq_self.2 λa ha=>by simpa using λe=>j a ha p (by simp) e
  .exact filter_eq_self.2 λa ha=>by simp only[decide_eq_true_eq];rintro rfl;exact i ha
 rw[C,e,flatMap_append,flatMap_cons,flatMap_append,<- append_assoc,<- append_assoc];exact List.perm_append_comm.append_right _
def EJ{T:Tree}(h:sf T){p:Path}{A B:List Path}(e:T.D=A++p::B):T.D.filter (λr=>decide (r≠p))=A++B:=by
 have g:=h.nodup;rw[e]at g;obtain⟨C,y,j⟩:=nodup_append.1 g;have i:=(nodup_cons.1 y).1;rw[e,filter_append,filter_cons,if_neg (by simp)];congr 1
 .exact filter_eq_self.2 λa ha=>by simpa using λe=>j a ha p (by simp) e
 .exact filter_eq_self.2 λa ha=>by simp only[decide_eq_true_eq];rintro rfl;exact i ha
def erase_filter{c:ae}:∀{l:List ae} {j:Nat} (g:j<l.length),l.Nodup->l[j]=c->l.eraseIdx j=l.filter λd=>decide (d≠c)
 |[],j,g,_,_=>by simp at g
 |d::l,0,_,h,e=>by
  have e:d=c:=e
  subst e;obtain⟨i,r⟩:=nodup_cons.1 h;rw[List.eraseIdx_cons_zero,filter_cons,if_neg (by simp)];exact(filter_eq_self.2 λa ha=>by simp only[decide_eq_true_eq];rintro rfl;exact i ha).symm
 |d::l,j+1,g,h,e=>by
  obtain⟨i,r⟩:=nodup_cons.1 h;have e:l[j]'(by simpa using g)=c:=e;rw[List.eraseIdx_cons_succ,filter_cons,if_pos,erase_filter (by simpa using g) r e];simp only[decide_eq_true_eq];rintro rfl;exact i (e▸getElem_mem _)
def cj.LI{T T':Tree}{tk h:Path->List bY}{ct g:Path->List Nat}{fr i:Path->List bY}{mn j:Path->List Nat}{r:Path}(G:T'.B r=T.B r)(A:T'.M r=T.M r)(C:T'.E r=T.E r)(hK:T'.K r=T.K r)(y:T'.S r=T.S r)(e:∀c∈T.K r,T'.B (r++[c])=T.B (r++[c]))(O:h r=tk r)(J:g r=ct r)(I:i r=fr r)(H:j r=mn r):et T' h g i j r=et T tk ct fr mn r:=by
 unfold et Hq gK ig;rw[G,A,C,hK,y,O,J,I,H,List.map_congr_left λc hc=>by rw[e c hc]]
def jz.del{B:Int}{T:Tree}{es:List aj}{ms y:dq}{tk:Path->List bY}{ct:Path->List Nat}(h:jz B T es ms tk ct){q:Path}{c:ae}(i:q++[c]∈T.D)(G:T.K (q++[c])=[])(A:fE es y ((T.del q c).D.flatMap T.M))(hK:∀j d,j∈(T.del q c).D.flatMap T.M->dO ms j d->dO y j d):jz B (T.del q c) es y tk ct:=by
 have g:∀r,r∈(T.del q c).D->r∈T.D:=λr C=>(mem_filter.1 C).1;refine⟨h.tree.del i G,A,λp d e=>?_,⟨λp hp=>h.dW.tok p (g p hp),λp d e=>h.dW.cnt p d (g _ e),λp d e=>h.dW.le p d (g _ e)⟩⟩;exact t_ (λj H I=>hK j I (List.mem_flatMap.2 ⟨_,e,H⟩)) d 0 (h.fit p d (g _ e))
def UF(T:Tree)(W:Path->Prop):Prop:=∀r∈T.D,r≠[]->¬W r->T.K r≠[]\/0<T.E r
end Go.Proofs.YthaeiehophlooaaGreat
