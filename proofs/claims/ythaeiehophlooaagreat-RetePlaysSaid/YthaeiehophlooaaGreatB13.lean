import Derived.Test.YthaeiehophlooaaGreatB12
open Go.IntKind (wrap)
open Int (toNat toNat_natCast)
open List (Pairwise.cons Pairwise.nil any_eq_true append_assoc append_nil drop drop_zero filter_append filter_cons filter_eq_self getElem?_eq_getElem getElem_map getElem_mem getElem_take length_append length_cons length_map length_take map_append map_congr_left map_cons map_drop map_map map_take mem_append mem_cons mem_cons_of_mem mem_cons_self mem_filter mem_flatMap mem_iff_getElem mem_map mem_of_mem_take mem_range mem_singleton nil_append pairwise_map range sum_append sum_cons take take_add_one take_length)
open Nat (le_refl le_trans zero_add)
set_option linter.all false
namespace Go.Proofs.YthaeiehophlooaaGreat
open Go.Proofs.Tryz Go.aP Go.RowKit
def Rb(n:Nat)(f:Nat->Nat)(j:Nat):sh n f j=(if j=n then f 0 else 0)+sh (n+1) (λj=>f (j+1)) j:=by
 unfold sh;by_cases e:j=n
 .subst e;rw[if_pos (le_refl _),Nat.sub_self,if_pos rfl,if_neg (by omega)];omega
 .rw[if_neg e];by_cases h:n<=j
  .rw[if_pos h,if_pos (by omega),show j-n=j-(n+1)+1 from by omega,zero_add]
  .rw[if_neg h,if_neg (by omega)]
theorem Fu{es:List aj}{c:ae}(h:¬(c.kind=1\/c.kind=2))(rows:List (List aP.Bind)):(λj=>dz es c rows (j+1))=cL es c.conds rows:=by
 funext j;rw[GK];unfold dz;congr 1;exact map_congr_left λb _=>by rw[wB,if_neg h]
theorem MG{es:List aj}{c:ae}(h:c.kind=1\/c.kind=2)(rows:List (List aP.Bind))(j:Nat):dz es c rows (j+1)=0:=by
 unfold dz;induction rows with
 |nil=>rfl
 |cons b rows ih=>rw[map_cons,sum_cons,ih,wB,if_pos h]
def tr{es:List aj}{c:ae}{ts:List cS}{k:Nat}(e:k<ts.length):bG es c (ts.take (k+1))=bG es c (ts.take k)++bG es c [ts[k]]:=by
 rw[<- rJ,take_add_one,getElem?_eq_getElem e];rfl
def Eu:∀(a:Nat) {ts:List cS} {k:Nat} (e:k<ts.length),o_ a (ts.take (k+1))=o_ a (ts.take k)++[⟨[],ts[k].binds,((a+k:Nat):Int)⟩]
 |a,t::ts,0,_=>rfl
 |a,t::ts,k+1,e=>by
  simp only[List.take_succ_cons,o_,List.cons_append,List.getElem_cons_succ]
  rw[Eu (a+1) (by simpa using e),show a+1+k=a+(k+1)from by omega]
mutual
def Sg:ae->Prop
 | .mk k g i a v ac cs=>(k=1\/k=2\/k=3)/\Dl cs
def Dl:List ae->Prop
 |[]=>True
 |c::cs=>Sg c/\Dl cs
end
def Nd(c:ae):Sg c↔(c.kind=1\/c.kind=2\/c.kind=3)/\Dl c.conds:=by cases c;rfl
def Se{l:List ae}:Dl l↔∀c∈l,Sg c:=by
 induction l with
 |nil=>simp[Dl]
 |cons c l e=>simp[Dl,e]
section
variable {es:List aj} {R:Int}
def afK(es:List aj)(R:Int)(c:ae)(n:Nat)(ts:List cS)(g:Nat->Nat)(o:Bool)(e:Nat->Nat)(out:List cS):Prop:=
 (o=false/\(∀j,((dz es c (lG ts) (j+1):Nat):Int)<=R)/\e=(λj=>g j+sh (n+1) (λj=>dz es c (lG ts) (j+1)) j)/\(out=bG es c ts\/(R<((bG es c ts).length:Nat)/\R<(out.length:Nat))))\/(o=true/\∃j,R<((dz es c (lG ts) (j+1):Nat):Int))
def rq(es:List aj)(R:Int)(c:ae):Prop:=∀(fa fv fc ft G:Fl) (n N z:Nat) (i:Nat->Nat) (g:List cS) {L:List aO} {C:Mem} {K:Kq},tE c->Sg c->n+aQ c<=2000->N<=n->(∀j,N<=j->i j=0)->g.length<=1000000->(∀t∈g,t.binds.length+100*aQ c<=900000/\t.tags.length+1<=900000)->Ow (qd z R false N i::L) C->
    (∀f o A h out e,afK es R c n g i o h out->A<=n+aQ c->(∀j,A<=j->h j=0)->out.length<=1000001->(∀t∈out,t.tags.length<=900000)->Ow (qd z R o A h::L) e->K (.list 3 f (out.map cS.pv)) e)->
    aa prog 235 [.agg [pI c.kind,pB c.goal,pS c.id,.list 6 fa (c.attr.map Test.pv),.list 6 fv (c.value.map Test.pv),pB c.acc,.list 7 fc (c.conds.map ae.pv)],pI (n:Nat),.list 3 ft (g.map cS.pv),.list 12 G (es.map aj.pv),pP z 0] C K
def GoR(es:List aj)(R:Int)(l:List ae)(n:Nat)(ts:List cS)(g:Nat->Nat)(o:Bool)(e:Nat->Nat)(out:List cS):Prop:=
 (o=false/\(∀j,((cL es l (lG ts) j:Nat):Int)<=R)/\e=(λj=>g j+sh n (cL es l (lG ts)) j)/\out=cE es l ts)\/(o=true/\∃j,R<((cL es l (lG ts) j:Nat):Int))
def Mj(es:List aj)(R:Int)(l:List ae):Prop:=∀(fl ft G:Fl) (n N z:Nat) (i:Nat->Nat) (g:List cS) {L:List aO} {C:Mem} {K:Kq},tD l->Dl l->n+ah l<=2000->N<=n->(∀j,N<=j->i j=0)->g.length<=1000000->(∀t∈g,t.binds.length+100*ah l<=900000/\t.tags.length+ah l<=900000)->Ow (qd z R false N i::L) C->
    (∀f o A h out e,GoR es R l n g i o h out->A<=n+ah l->(∀j,A<=j->h j=0)->out.length<=1000001->(∀t∈out,t.tags.length<=900000)->Ow (qd z R o A h::L) e->K (.list 3 f (out.map cS.pv)) e)->
    aa prog 197 [.list 7 fl (l.map ae.pv),pI (n:Nat),.list 3 ft (g.map cS.pv),.list 12 G (es.map aj.pv),pP z 0] C K
def HR{c:ae}(j:cU c){ts:List cS}{m:Nat}(h:∀t∈ts,t.binds.length<=m):∀t∈bG es c ts,t.binds.length<=m+100*aQ c:=by
 intro t i;have e:t.binds∈lG (bG es c ts):=mem_map.2 ⟨t,i,rfl⟩;rw[qy]at e;obtain⟨b,A,G⟩:=mem_flatMap.1 e;obtain⟨g,C,rfl⟩:=mem_map.1 A;have:=Nt j G;have:=h g C;omega
def vn:∀{l:List ae} (_:bO l) {ts:List cS} {m:Nat} (_:∀t∈ts,t.binds.length<=m),∀t∈cE es l ts,t.binds.length<=m+100*ah l
 |[],_,_,_,h=>λt e=>by have:=h t e;simp[ah];exact this
 |c::l,g,ts,m,h=>λt e=>by
  have:=vn (l:=l) g.2 (HR (es:=es) g.1 h) t e;simp only[ah];omega
def aff(hR:0<=R/\R<=1000000){l:List ae}(hs:∀c∈l,rq es R c):Mj es R l:=by
 intro fl ft fe n N z cv ts L μ K aJ SH fK hN hz BQ zK Y hk;have se:=cz l;refine yQ.c ?_
 refine⟨λm s u=>∃i,s.2.2=((i:Nat):Int)/\i<=l.length/\m=l.length-i/\s.1=((n+ah (l.take i):Nat):Int)/\∃o I J out,s.2.1.2=out.map cS.pv/\(o=false->GoR es R (l.take i) n ts cv false J out)/\(o=true->∃j,R<((cL es l (lG ts) j:Nat):Int))/\I<=n+ah (l.take i)/\(∀j,I<=j->J j=0)/\out.length<=1000001/\(∀t∈out,t.tags.length<=900000)/\Ow (qd z R o I J::L) u,
  ⟨_,0,rfl,by omega,rfl,by simp[ah],false,N,cv,ts,rfl,λ_=>.inl ⟨rfl,λj=>by simp[cL];omega,?_,rfl⟩,(λh=>by cases h),by simp[ah];omega,hz,by omega,λt g=>by have:=(zK t g).2;omega,Y⟩,?_⟩
 .funext j;simp only[List.take_zero];rw[KJ];rfl
 rintro m ⟨_,⟨f,_⟩,_⟩ u ⟨i,rfl,A,rfl,rfl,o,I,J,out,rfl,U,Dq,hN',Li,hol,hot,Y⟩;dsimp only;have fin:(o=false->i=l.length)->K (.list 3 f (out.map cS.pv)) u:=λh=>by
  refine hk f o I J out u ?_ (by have:=gV l i;omega) Li hol hot Y;cases o with
  |true=>exact .inr ⟨rfl,Dq rfl⟩
  |false=>
   have U:=U rfl;rw[h rfl,take_length]at U;exact U
 refine ab.mk (λh=>?_) (λh=>fin λ_=>by simp at h;omega);have A:i<l.length:=by simpa using h
 obtain⟨a,cc,rQ⟩:=qd.open_ Y;refine⟨_,rQ.rd 0 rfl (by simp),ab.mk (λC=>?_) (λC=>fin λe=>by rw[e]at C;cases C)⟩;have C:o=false:=by simpa using C
 subst C;obtain⟨_,O,rfl,rfl⟩:=(U rfl).resolve_right λh=>by cases h.1
 have hm:=getElem_mem A;have ah0:=mQ A;have amv:=gV l (i+1);have Wp:1<=aQ l[i]:=by rw[bN];omega
 have eH:=lQ.1 aJ _ hm;have Kk:lG (cE es (l.take i) ts)=jQ es (l.take i) (lG ts):=iJ es _ ts;have hln:(cE es (l.take i) ts).length<=1000000:=by
  by_cases h0:i=0
  .subst h0;exact BQ
  .obtain⟨k,rfl⟩:∃k,i=k+1:=⟨i-1,by omega⟩;rw[tq (by omega) ts];have H:=O (ah (l.take k));rw[Ax es (by omega) (lG ts),HW]at H;omega
 refine⟨by omega,_,aA A,_,_,_,_,_,_,_,_,_,_,jT _,?_⟩;have bK:bO (l.take i):=cG.2 λc hc=>cG.1 (oO aJ) c (mem_of_mem_take hc);refine hs _ hm .sh .sh .sh f fe (n+ah (l.take i)) I z _ _ eH (Se.1 SH _ hm) (by omega) hN' Li hln (λt g=>⟨?_,?_⟩) Y λf1 o1 N1 cv1 KX u1 hr hN1 Sm zM ht1 gy=>⟨_,_,rfl,?_⟩
 .have H:=vn (es:=es) bK (m:=900000-100*ah l) (ts:=ts) (λt g=>by have:=(zK t g).1;omega) t g;have Pd:∀t∈ts,100*ah l<=900000:=λt g=>by have:=(zK t g).1;omega
  cases ts with
  |nil=>
   have:∀l:List ae,cE es l []=[]:=λl=>by
    induction l with
    |nil=>rfl
    |cons c l ih=>show cE es l (bG es c [])=[];unfold bG;simp;exact ih
   rw[this]at g;cases g
  |cons t0 ts=>have:=Pd t0 (by simp);omega
 .have Pd:∀t∈ts,t.tags.length<=900000-ah l/\ah l<=900000:=λt g=>by have:=(zK t g).2;omega
  have H:=qx (es:=es) (l:=l.take i) (m:=900000-ah l) (ts:=ts) (λt g=>(Pd t g).1) t g;have G:=cz (l.take i);rw[length_take,Nat.min_eq_left (by omega)]at H G;omega
 rw[length_map];refine afv Sm (n+ah (l.take i)) KX.length (by omega) (by omega) gy λu2 xy=>⟨rfl,by omega,_,aA A,.sh,l[i].conds.map ae.pv,by rw[ae.de];rfl,?_⟩;refine(rj _ .sh l[i].conds (le_refl _) (by rw[bN]at ah0;omega)).call ⟨_,rfl,?_⟩;refine⟨l.length-(i+1),by omega,i+1,by rw[aD (by omega) (by omega)];rfl,by omega,rfl,?_,_,_,_,KX,rfl,λC=>?_,λC=>?_,by omega,λj Q=>?_,zM,ht1,xy⟩
 .have:=bN l[i];rw[aD (x:=1+((ah l[i].conds:Nat):Int)) (by omega) (by omega),aD (by omega) (by omega)];omega
 .obtain⟨H,G⟩:=Bool.or_eq_false_iff.1 C;subst H;obtain⟨_,r1,rfl,r2⟩:=hr.resolve_right λh=>by cases h.1
  have G:((KX.length:Nat):Int)<=R:=by simpa using G
  obtain rfl:=r2.resolve_right λh=>by omega
  rw[Kk]at r1;have SQ:=tq (es:=es) A ts;rw[mN A]at SQ;refine .inl ⟨rfl,λj=>?_,?_,(mN A ts).symm⟩
  .have h4:∀j,((dz es l[i] (jQ es (l.take i) (lG ts)) j:Nat):Int)<=R:=λj=>by
    cases j with
    |zero=>rw[<- SQ];exact G
    |succ j=>exact r1 j
   rw[Ax es A];unfold sh;split
   .rename_i h5;rw[GN es _ _ _ h5,zero_add];exact h4 _
   .rw[Nat.add_zero];exact O j
  .funext j;rw[SQ];have e:sh n (λq=>cL es (l.take i) (lG ts) q+sh (ah (l.take i)) (dz es l[i] (jQ es (l.take i) (lG ts))) q) j=sh n (cL es (l.take i) (lG ts)) j+sh (n+ah (l.take i)) (dz es l[i] (jQ es (l.take i) (lG ts))) j:=by rw[KK,XN]
   have e2:sh n (cL es (l.take (i+1)) (lG ts)) j=sh n (λq=>cL es (l.take i) (lG ts) q+sh (ah (l.take i)) (dz es l[i] (jQ es (l.take i) (lG ts))) q) j:=vo (λq=>Ax es A _ q) j;have e3:sh n (cL es (l.take (i+1)) (lG ts)) j=sh n (cL es (l.take i) (lG ts)) j+sh (n+ah (l.take i)) (dz es l[i] (jQ es (l.take i) (lG ts))) j:=e2.trans e;have e4:=Rb (n+ah (l.take i)) (dz es l[i] (jQ es (l.take i) (lG ts))) j;show mK _ _ _ j=cv j+sh n (cL es (l.take (i+1)) (lG ts)) j;rw[e3,e4];unfold mK;by_cases Q:j=n+ah (l.take i)
   .rw[if_pos Q,if_pos Q];have z1:=Li j (by omega);have z1:cv j+sh n (cL es (l.take i) (lG ts)) j=0:=z1;have z2:sh (n+ah (l.take i)+1) (λj=>dz es l[i] (jQ es (l.take i) (lG ts)) (j+1)) j=0:=by unfold sh;rw[if_neg (by omega)]
    omega
   .rw[if_neg Q,if_neg Q,Kk];dsimp only;omega
 .have h4:∃j,R<((dz es l[i] (jQ es (l.take i) (lG ts)) j:Nat):Int):=by
   rcases hr with⟨rfl,r1,rfl,r2⟩|⟨_,j,h⟩
   .have G:R<((KX.length:Nat):Int):=by simpa using C
    refine⟨0,?_⟩;rw[<- tq A ts,mN A];rcases r2 with rfl|⟨h3,_⟩
    .exact G
    .exact h3
   .exact⟨j+1,by rw[<- Kk];exact h⟩
  obtain⟨j,h4⟩:=h4;exact(GM es R l (lG ts)).2 (.inr ⟨i,A,j,h4⟩)
 .unfold mK;rw[if_neg (by omega)];exact Sm j (by omega)
end
section
variable {es:List aj} {R:Int}
def KG{c:ae}(e:c.kind=1)(t:cS):bG es c [t]=(aY c t.binds es).map λx=>(⟨t.tags++[x.1.tag],x.2,t.at_⟩:cS):=by unfold bG;rw[if_pos e];simp
def AY{c:ae}(g:c.kind=2)(t:cS):bG es c [t]=if(aY c t.binds es).isEmpty then[t]else[]:=by
 unfold bG;have e:¬c.kind=1:=by omega
 rw[if_neg e,filter_cons,List.filter_nil,mc,if_neg e,if_pos g];cases(aY c t.binds es).isEmpty<;>rfl
def AX{c:ae}(e:¬(c.kind=1\/c.kind=2))(t:cS):bG es c [t]=if(jQ es c.conds [t.binds]).isEmpty then[t]else[]:=by
 unfold bG;rw[if_neg (λh=>e (.inl h)),filter_cons,List.filter_nil,mc,if_neg (λh=>e (.inl h)),if_neg (λh=>e (.inr h))];cases(jQ es c.conds [t.binds]).isEmpty<;>rfl
def Om{c:ae}{ts us:List cS}(h:∀t∈us,t∈ts):∀t∈bG es c us,t∈bG es c ts:=by
 intro t e;unfold bG at e |-;by_cases g:c.kind=1
 .rw[if_pos g]at e |-;obtain⟨a,ha,i⟩:=mem_flatMap.1 e;exact mem_flatMap.2 ⟨a,h a ha,i⟩
 .rw[if_neg g]at e |-;obtain⟨a,b⟩:=mem_filter.1 e;exact mem_filter.2 ⟨h t a,b⟩
theorem acT(hR:0<=R/\R<=1000000)(Qr:es.length<=1000000){c:ae}(xw:Mj es R c.conds)(h3:c.kind=3):rq es R c:=by
 intro fa fv fc ft fe n N z cv ts L μ K aJ SH fK hN hz BQ zK hO hk;have SI:¬(c.kind=1\/c.kind=2):=by omega
 have Wp:=bN c;refine mu.c (ab.t (by rw[h3];rfl) ?_);refine ak.cX (n:=ts.length) (by omega) (λi x u=>x.2=(o_ 0 (ts.take i)).map cS.pv/\Ow (eX x.1 i 3::qd z R false N cv::L) u) ⟨rfl,hO.nil (.inl rfl)⟩ ?_ ?_
 .rintro i ⟨f,_⟩ u next hi ⟨rfl,h⟩ au
  refine ab.t (by simpa using hi) ⟨by omega,_,aA hi,_,_,rfl,?_⟩;refine h.app (by rw[length_map,BP,length_take];omega) (by simp;omega) (by simp;omega) λf1 u1 h1=>au _ _ ⟨?_,h1⟩;rw[Eu 0 hi,map_append,zero_add];rfl
 .rintro⟨f,_⟩ u next ⟨rfl,h⟩
  refine ab.f (by simp) ?_;rw[take_length,show wrap .i64 (((n:Nat):Int)+1)=((n+1:Nat):Int)from by rw[aD (by omega) (by omega)];rfl];refine xw fc f fe (n+1) N z cv (o_ 0 ts) ((mT c).1 aJ).2.2 ((Nd c).1 SH).2 (by omega) (by omega) hz (by rw[BP];exact BQ) (λt ht=>⟨?_,?_⟩) h.drop λf1 o N1 cv1 KX u1 hg hN1 Sm zM ht1 rQ=>⟨_,_,rfl,?_⟩
  .have h1:t.binds∈lG (o_ 0 ts):=mem_map.2 ⟨t,ht,rfl⟩;rw[oZ]at h1;obtain⟨t',h2,h3⟩:=mem_map.1 h1;have:=(zK t' h2).1;rw[<- h3];omega
  .rw[(Ga 0 ts t ht).2];simp;omega
  refine ak.cX (n:=ts.length) (by omega) (λk x u=>∃q:List cS,x.2=q.map cS.pv/\q.length<=k/\(∀t∈q,t∈ts)/\(KX=cE es c.conds (o_ 0 ts)->q=bG es c (ts.take k))/\Ow (eX x.1 q.length 3::qd z R o N1 cv1::L) u) ⟨[],rfl,by simp,by simp,λ_=>by unfold bG;simp,rQ.nil (.inl rfl)⟩ ?_ ?_
  .rintro k ⟨f2,_⟩ u2 next bZ ⟨q,rfl,hq1,IJ,II,gy⟩ au
   refine ab.t (by simpa using bZ) ((abj f1 KX (by omega) k).call ⟨_,rfl,ab.mk (λhn=>?_) (λhy=>?_)⟩)
   .refine⟨by omega,_,aA bZ,_,_,_,_,_,rfl,?_⟩;refine gy.app (by rw[length_map]) (by simp;omega) (by simp;omega) λf3 u3 YE=>au _ _ ⟨q++[ts[k]],by rw[map_append];rfl,by simp;omega,λt ht=>?_,λe=>?_,by rw[length_append];exact YE⟩
    .rcases mem_append.1 ht with ht|ht
     .exact IJ t ht
     .simp only[mem_singleton]at ht;subst ht;exact getElem_mem bZ
    .rw[tr bZ,II e,AX SI];rw[e]at hn;have:=BX es c.conds ts 0 k bZ;rw[zero_add]at this;rw[this]at hn;rw[if_pos (by simpa using hn)]
   .refine au _ _ ⟨q,rfl,by omega,IJ,λe=>?_,gy⟩;rw[tr bZ,II e,AX SI];rw[e]at hy;have:=BX es c.conds ts 0 k bZ;rw[zero_add]at this;rw[this]at hy;rw[if_neg (by simpa using hy),append_nil]
  .rintro⟨f2,_⟩ u2 next ⟨q,rfl,hq1,IJ,II,gy⟩
   refine ab.f (by simp) ?_;rw[take_length]at II;refine hk f2 o N1 cv1 q u2 ?_ (by omega) Sm (by omega) (λt ht=>by have:=(zK t (IJ t ht)).2;omega) gy.drop;rcases hg with⟨rfl,g1,g2,g3⟩|⟨rfl,g1⟩
   .rw[oZ]at g1 g2;refine .inl ⟨rfl,λj=>?_,?_,.inl (II g3)⟩
    .have:=congrFun (Fu (es:=es) SI (lG ts)) j;rw[this];exact g1 j
    .rw[Fu SI];exact g2
   .rw[oZ]at g1;obtain⟨j,hj⟩:=g1;refine .inr ⟨rfl,j,?_⟩;have:=congrFun (Fu (es:=es) SI (lG ts)) j;rw[this];exact hj
theorem QV(hR:0<=R/\R<=1000000)(Qr:es.length<=1000000){c:ae}(Nn:c.kind=1\/c.kind=2):rq es R c:=by
 intro fa fv fc ft fe n N z cv ts L μ K aJ SH fK hN hz BQ zK hO hk;have Lr:=((mT c).1 aJ).1;obtain⟨_,l1,l2,l3,l4,_⟩:=(bJ c).1 Lr;have Wp:1<=aQ c:=by rw[bN];omega
 have fin:∀(f:Fl) (out:List cS) (u:Mem),(out=bG es c ts\/(R<((bG es c ts).length:Nat)/\R<(out.length:Nat)))->out.length<=1000001->(∀t∈out,t∈bG es c ts)->Ow (qd z R false N cv::L) u->K (.list 3 f (out.map cS.pv)) u:=λf out u h1 h2 h3 hO=>by
  refine hk f false N cv out u (.inl ⟨rfl,λj=>by rw[MG Nn];omega,?_,h1⟩) (by omega) hz h2 (λt ht=>?_) hO
  .funext j;have:sh (n+1) (λj=>dz es c (lG ts) (j+1)) j=0:=by unfold sh;split<;>simp[MG Nn]
   omega
  .exact AW (m:=899999) (λt ht=>by have:=(zK t ht).2;omega) t (h3 t ht)
 refine mu.c (ab.f (by rcases Nn with e|e<;>rw[e]<;>rfl) ?_);refine ak.cX (n:=ts.length) (by omega) (λi x u=>x.2=(bG es c (ts.take i)).map cS.pv/\(bG es c (ts.take i)).length<=1000000/\(c.kind=1->(((bG es c (ts.take i)).length:Nat):Int)<=R)/\Ow (eX x.1 (bG es c (ts.take i)).length 3::qd z R false N cv::L) u) ?_ ?_ ?_
 .have e:bG es c (ts.take 0)=[]:=by unfold bG;simp
  rw[e];exact⟨rfl,by simp,λ_=>hR.1,hO.nil (.inl rfl)⟩
 .rintro i ⟨f,_⟩ u next hi ⟨rfl,aap,hle,h⟩ au
  have hbt:=(zK _ (getElem_mem hi)).1;have gF:=tr (es:=es) (c:=c) hi;generalize hD:bG es c (ts.take i)=D at h hle aap gF |-;refine ab.t (by simpa using hi) ?_;refine⟨λs u=>s.2=(aY c ts[i].binds es).isEmpty/\∃o:List cS,s.1.2=o.map cS.pv/\o=(if c.kind=1 then bG es c (ts.take (i+1))else D)/\o.length<=1000000/\(c.kind=1->((o.length:Nat):Int)<=R)/\Ow (eX s.1.1 o.length 3::qd z R false N cv::L) u,?_,?_⟩
  .let mk:aj×List aP.Bind->cS:=λx=>⟨ts[i].tags++[x.1.tag],x.2,ts[i].at_⟩;let P:Nat->List cS:=λk=>D++(if c.kind=1 then(aY c ts[i].binds (es.take k)).map mk else[]);have hPt:c.kind=1->bG es c (ts.take (i+1))=P es.length:=λh1=>by
    rw[gF,KG h1];show _=D++_;rw[if_pos h1,take_length]
   have hP0:P 0=D:=by
    show D++_=D;split<;>simp[aY]
   have hPn:c.kind≠1->∀k,P k=D:=λh1 k=>by show D++_=D;rw[if_neg h1,append_nil]
   refine ak.YI (n:=es.length) (by omega) (λk x y u=>y=(aY c ts[i].binds (es.take k)).isEmpty/\x.2=(P k).map cS.pv/\(P k).length<=1000000/\(c.kind=1->(((P k).length:Nat):Int)<=R)/\Ow (eX x.1 (P k).length 3::qd z R false N cv::L) u) ⟨by simp[aY],by rw[hP0],by rw[hP0];exact aap,by rw[hP0];exact hle,by rw[hP0];exact h⟩ ?_ ?_
   .rintro k ⟨f1,_⟩ y u1 jr bZ ⟨rfl,rfl,p0,p1,h1⟩ iT;dsimp only at h1 |-;refine⟨λ_ u'=>(c.kind=1\/(aY c ts[i].binds (es.take k)).isEmpty=true)/\u'=u1,ab.t (by simpa using bZ) (ab.mk (λe=>⟨.inl (by simpa using e),rfl⟩) (λe=>ab.mk (λe2=>⟨.inr e2,rfl⟩) (λe2=>?_))),?_⟩
    .have e:c.kind≠1:=by simpa using e
     refine⟨?_,P k,rfl,by rw[if_neg e,hPn e],p0,p1,h1⟩;have e2:(aY c ts[i].binds (es.take k)).isEmpty=false:=e2;rw[e2,mP (es:=es) k];cases hs:aY c ts[i].binds (es.take k)with
     |nil=>rw[hs]at e2;cases e2
     |cons a r=>rfl
    .rintro _ _ ⟨xw,rfl⟩;refine⟨by omega,_,aA bZ,_,_,_,_,_,_,_,_,_,_,_,_,rfl,by omega,_,aA hi,_,_,rfl,?_⟩;refine av.call (Xg .sh .sh .sh .sh c es[k] ts[i].binds (by omega) (cD l3) (cD l4)) λp hp=>?_;obtain⟨l',rfl,UM⟩:=hp;refine⟨_,_,_,rfl,ab.mk (λcM=>?_) (λDn=>?_)⟩
     .have cM:dg c es[k] ts[i].binds=none:=by
       cases hc:dg c es[k] ts[i].binds with
       |none=>rfl
       |some r=>rw[hc]at cM;cases cM
      have e1:aY c ts[i].binds (es.take (k+1))=aY c ts[i].binds (es.take k):=by rw[oG bZ,cM];simp
      have e2:P (k+1)=P k:=by show D++_=D++_;rw[e1]
      exact iT _ _ _ ⟨by rw[e1],by rw[e2],by rw[e2];exact p0,by rw[e2];exact p1,by rw[e2];exact h1⟩
     .obtain⟨r,hc⟩:∃r,dg c es[k] ts[i].binds=some r:=by
       cases hc:dg c es[k] ts[i].binds with
       |none=>rw[hc]at Dn;cases Dn
       |some r=>exact⟨r,rfl⟩
      have:=UM r hc;subst this;have e1:aY c ts[i].binds (es.take (k+1))=aY c ts[i].binds (es.take k)++[(es[k],l')]:=by rw[oG bZ,hc];simp
      have aW:(aY c ts[i].binds (es.take (k+1))).isEmpty=false:=by rw[e1];simp
      refine ab.mk (λjJ=>?_) (λjJ=>?_)
      .have jJ:c.kind=1:=by simpa using jJ
       have e2:P (k+1)=P k++[mk (es[k],l')]:=by
        show D++_=D++_++_;rw[if_pos jJ,if_pos jJ,e1,map_append,append_assoc];rfl
       have e3:[mk (es[k],l')].map cS.pv=[[.list 1 .sh (([]++ts[i].tags.map fO)++[[pI es[k].tag]]),.list 4 .sh (l'.map Bind.pv),pI ts[i].at_]]:=by simp[mk]
       have nH:=p1 jJ;have ams:=(zK _ (getElem_mem hi)).2;refine⟨λs u'=>s.2=(P (k+1)).map cS.pv/\Ow (eX s.1 (P (k+1)).length 3::qd z R false N cv::L) u',?_,?_⟩
       .have a3:∀{u:Mem} (O:Ow (eX f1 (P k).length 3::qd z R false N cv::L) u),aR false 3 56 f1 ((P k).map cS.pv) [[.list 1 .sh (([]++ts[i].tags.map fO)++[[pI es[k].tag]]),.list 4 .sh (l'.map Bind.pv),pI ts[i].at_]] u λf u'=>(f,(P k).map cS.pv++[[.list 1 .sh (([]++ts[i].tags.map fO)++[[pI es[k].tag]]),.list 4 .sh (l'.map Bind.pv),pI ts[i].at_]]).2=(P (k+1)).map cS.pv/\Ow (eX f (P (k+1)).length 3::qd z R false N cv::L) u':=λO=>
         O.app (by rw[length_map]) (by simp;omega) (by simp;omega) λf' u' h'=>⟨(congrArg (λq=>(P k).map cS.pv++q) e3.symm).trans (List.map_append.symm.trans (congrArg (List.map cS.pv) e2.symm)),by rw[e2,length_append];exact h'⟩
        have a2:∀{u:Mem} {f:Fl} {F:Fl->Mem->Prop} (O:Ow (eX f ts[i].tags.length 1::eX f1 (P k).length 3::qd z R false N cv::L) u) (_:∀f' u',Ow (eX f1 (P k).length 3::qd z R false N cv::L) u'->F f' u'),aR false 1 8 f ([]++ts[i].tags.map fO) [[pI es[k].tag]] u F:=λO hF=>
         O.app (by simp) (by simp;omega) (by simp;omega) λf' u' h'=>hF _ _ h'.drop
        have a1:∀{u:Mem} {F:Fl->Mem->Prop} (O:Ow (eX f1 (P k).length 3::qd z R false N cv::L) u) (_:∀f' u',Ow (eX f' ts[i].tags.length 1::eX f1 (P k).length 3::qd z R false N cv::L) u'->F f' u'),aR false 1 8 .nil [] (ts[i].tags.map fO) u F:=λO hF=>
         (O.nil (n:=0) (.inl rfl)).app rfl (by simp;omega) (by simp;omega) λf' u' h'=>hF _ _ (by simpa using h')
        refine⟨by omega,_,aA hi,_,_,rfl,by omega,_,aA bZ,by omega,_,aA hi,?_⟩
        repeat' first
         |exact trivial
         |exact a3 ‹_›
         |refine a2 ‹_› λ_ _ _=>?_
         |refine a1 ‹_› λ_ _ _=>?_
         |refine⟨_,rfl,?_⟩
         |refine⟨?_,?_⟩
       .rintro⟨f2,_⟩ u2 ⟨rfl,h2⟩;obtain⟨a,cc,Ns⟩:=qd.open_ (h2.drop);refine⟨_,Ns.rd 0 rfl (by simp),ab.mk (λDq=>?_) (λcM=>?_)⟩
        .rw[length_map]at Dq;have Dq:R<(((P (k+1)).length:Nat):Int):=by simpa using Dq
         have iQ:∀t∈P (k+1),t∈bG es c ts:=λt ht=>by
          refine Om (us:=ts.take (i+1)) (λt ht=>mem_of_mem_take ht) t ?_;rw[hPt jJ];rcases mem_append.1 ht with ht|ht
          .exact mem_append.2 (.inl ht)
          .refine mem_append.2 (.inr ?_);rw[if_pos jJ]at ht |-;rw[take_length];obtain⟨x,hx,e⟩:=mem_map.1 ht;refine mem_map.2 ⟨x,?_,e⟩;rw[mP (es:=es) (k+1)];exact mem_append.2 (.inl hx)
         refine fin f2 _ u2 (.inr ⟨?_,Dq⟩) (by rw[e2,length_append,List.length_singleton];omega) iQ h2.drop;have q1:(P (k+1)).length<=(P es.length).length:=by
          show(D++_).length<=(D++_).length;rw[if_pos jJ,if_pos jJ,length_append,length_append,length_map,length_map,take_length,mP (es:=es) (k+1),length_append];omega
         have q2:(bG es c ts).length=(bG es c (ts.take (i+1))).length+(bG es c (ts.drop (i+1))).length:=by rw[<- length_append,<- rJ,List.take_append_drop]
         rw[hPt jJ]at q2;omega
        .rw[length_map]at cM;have cM:(((P (k+1)).length:Nat):Int)<=R:=by simpa using cM
         exact iT _ _ _ ⟨aW.symm,rfl,by omega,λ_=>cM,h2⟩
      .have jJ:c.kind≠1:=by simpa using jJ
       have e:P (k+1)=P k:=by rw[hPn jJ,hPn jJ]
       exact iT _ _ _ ⟨aW.symm,by rw[e],by rw[e];exact p0,λe=>absurd e jJ,by rw[e];exact h1⟩
   .rintro⟨f1,_⟩ y u1 jr ⟨rfl,rfl,p0,p1,h1⟩;refine⟨λ_ _=>False,ab.f (by simp) ⟨by rw[take_length],P es.length,rfl,?_,p0,p1,h1⟩,λ_ _ h=>h.elim⟩;by_cases jJ:c.kind=1
    .rw[if_pos jJ,hPt jJ]
    .rw[if_neg jJ,hPn jJ]
  .rintro⟨⟨f1,_⟩,y⟩ u1 ⟨rfl,o,rfl,ho,o0,o1,h1⟩;dsimp only at h1 |-;refine ab.mk (λdY=>ab.mk (λPj=>?_) (λPj=>?_)) (λdY=>?_)
   .have dY:c.kind=2:=by simpa using dY
    rw[if_neg (by omega)]at ho;subst ho;refine⟨by omega,_,aA hi,_,_,_,_,_,rfl,?_⟩;have e:bG es c (ts.take (i+1))=o++[ts[i]]:=by rw[gF,AY dY,if_pos Pj]
    have bK:o.length<=i:=by
     rw[<- hD];have:=On (es:=es) (c:=c) (ts:=ts.take i) (by omega);rw[length_take]at this;omega
    refine h1.app (by rw[length_map]) (by simp;omega) (by simp;omega) λf2 u2 h2=>au _ _ ⟨by rw[e,map_append];rfl,by rw[e];simp;omega,(λh=>by omega),by rw[e,length_append];exact h2⟩
   .have dY:c.kind=2:=by simpa using dY
    rw[if_neg (by omega)]at ho;subst ho;have e:bG es c (ts.take (i+1))=o:=by rw[gF,AY dY,if_neg (by rw[Pj];simp),append_nil]
    exact au _ _ ⟨by rw[e],by rw[e];exact o0,(λh=>by omega),by rw[e];exact h1⟩
   .have jJ:c.kind=1:=Nn.resolve_right (by simpa using dY);rw[if_pos jJ]at ho;subst ho;exact au _ _ ⟨rfl,o0,o1,h1⟩
 .rintro⟨f,_⟩ u next ⟨rfl,aap,hle,h⟩
  refine ab.f (by simp) ?_;rw[take_length]at*
  exact fin f _ u (.inl rfl) (by omega) (λt ht=>ht) h.drop
def Vo(e:0<=R/\R<=1000000)(G:es.length<=1000000)(c:ae):rq es R c:=by
 refine ae.ind (Q:=rq es R) (λc H=>?_) c;intro fa fv fc ft j n N z A i L I K C g;rcases((Nd c).1 g).1 with h|h|h
 .exact QV e G (.inl h) fa fv fc ft j n N z A i C g
 .exact QV e G (.inr h) fa fv fc ft j n N z A i C g
 .exact acT e G (aff e H) h fa fv fc ft j n N z A i C g
def ajD(e:0<=R/\R<=1000000)(g:es.length<=1000000)(l:List ae):Mj es R l:=aff e λc _=>Vo e g c
end
def xY:∀a b:List Int,mW a b=true↔bn a b<0
 |[],b=>by cases b<;>simp[mW,bn]<;>omega
 |a::l,[]=>by simp[mW,bn];omega
 |a::l,b::r=>by
  simp only[mW,bn]
  by_cases e:a=b
  .rw[if_pos e,if_pos e];exact xY l r
  .rw[if_neg e,if_neg e];simp;omega
abbrev ZN(ts:List cS):Prop:=ts.Pairwise λa b=>a.tags≠b.tags
def Dd(ts:List cS):List cS:=ts.foldl (λl t=>aZ bn cS.tags t l) []
def Oq(ts:List cS)(t:cS):Dd (ts++[t])=aZ bn cS.tags t (Dd ts):=by unfold Dd;rw[List.foldl_append];rfl
def HS{ts:List cS}(h:ZN ts):ch bn cS.tags (Dd ts)/\∀y,y∈Dd ts↔y∈ts:=by
 have key:∀(ts acc:List cS),ch bn cS.tags acc->ZN ts->(∀t∈ts,∀a∈acc,a.tags≠t.tags)->ch bn cS.tags (ts.foldl (λl t=>aZ bn cS.tags t l) acc)/\∀y,y∈ts.foldl (λl t=>aZ bn cS.tags t l) acc↔y∈ts\/y∈acc:=by
  intro ts;induction ts with
  |nil=>intro acc h _ _;exact⟨h,by simp⟩
  |cons t ts C=>
   intro acc h hp g;obtain⟨H,G⟩:=List.pairwise_cons.1 hp;obtain⟨A,j⟩:=C (aZ bn cS.tags t acc) (h.ins eJ t) G λe i a ha=>by
    rcases(bq eJ).1 ha with rfl|⟨ha,_⟩
    .exact H e i
    .exact g e (by simp[i]) a ha
   refine⟨A,λy=>?_⟩;simp only[List.foldl_cons];rw[j,bq eJ,mem_cons];constructor
   .rintro(h|rfl|⟨h,_⟩)
    .exact .inl (.inr h)
    .exact .inl (.inl rfl)
    .exact .inr h
   .rintro((rfl|h)|h)
    .exact .inr (.inl rfl)
    .exact .inl h
    .exact .inr (.inr ⟨h,g t (by simp) y h⟩)
 obtain⟨a,b⟩:=key ts [] Pairwise.nil h (by simp);exact⟨a,λy=>by unfold Dd;rw[b];simp⟩
def QX{ts:List cS}(h:ZN ts):(Dd ts).map cS.tok=jY (ts.map cS.tok):=by
 obtain⟨j,i⟩:=HS h;refine HT (by rw[pairwise_map];exact h) (ch.map j) λy=>?_;simp only[mem_map];constructor
 .rintro⟨t,g,e⟩;exact⟨t,(i t).1 g,e⟩
 .rintro⟨t,g,e⟩;exact⟨t,(i t).2 g,e⟩
def qv(ts:List cS):∀r∈ts.map cS.pv,r.length=3:=λr e=>by obtain⟨x,_,rfl⟩:=mem_map.1 e;rfl
def Vb(ts:List cS):aV (ts.map cS.pv).flatten=true:=nR (pv:=cS.pv) (λ_=>rfl) ts
def TD(f:Fl)(ts:List cS)(hl:ts.length<=10000000)(ht:∀t∈ts,t.tags.length<=1000000):av prog 143 [.list 3 f (ts.map cS.pv)] λp=>∃out:List cS,p=.list 3 .sh (out.map cS.pv)/\out.length=ts.length/\(ZN ts->out=Dd ts):=by
 refine aa.acY (rA.c ?_);refine ak.cX (n:=ts.length) (by omega) (λk x u=>∃out:List cS,x.2.1=out.length/\out.length=k/\(ZN (ts.take k)->out=Dd (ts.take k))/\(∀t∈out,t∈ts)/\Ow [ca 213 3 (pV x.1 x.2.1 x.2.2) (out.map cS.pv)] u) ⟨[],rfl,rfl,λ_=>rfl,by simp,ca.nil _ _ (L:=[]) trivial⟩ ?_ ?_
 .rintro k ⟨a,n,c⟩ u next G ⟨out,rfl,I,U,fL,J⟩ au
  dsimp only at J |-;have gF:=ht _ (getElem_mem G);refine ab.t (by simpa using G) ?_;refine⟨λs H=>∃i:Nat,s=(i:Int)/\i<=out.length/\(∀(j:Nat) (h:j<out.length),i<=j->bn ts[k].tags out[j].tags<0)/\(i=0\/∃h:i-1<out.length,¬bn ts[k].tags out[i-1].tags<0)/\H=u,?_,?_⟩
  .refine ak.down (n:=out.length) (k:=0) (by omega) (by omega) (λi H=>(∀(j:Nat) (h:j<out.length),i<=j->bn ts[k].tags out[j].tags<0)/\H=u) ⟨λj h1 h2=>by omega,rfl⟩ ?_ ?_
   .rintro j H jr h0 hj ⟨C,rfl⟩ iT;obtain⟨b,rfl,dF,_⟩:=ca.at_ 0 J rfl (qv out) (j:=j-1) (by simp;omega);have e1:wrap .i64 ((j:Int)-1)=((j-1:Nat):Int):=by rw[aD (by omega) (by omega)];omega
    rw[e1]at iT |-;refine ab.t (by simpa using h0) ⟨by omega,_,aA G,_,_,rfl,?_⟩;refine⟨by omega,by omega,.sh,(out[j-1]'(by omega)).tags.map fO,?_,?_⟩
    .rw[toNat_natCast];have:=dF 0 1 (by omega);rw[getElem_map]at this;exact this
    refine(abd .sh .sh _ _ (by omega) (by have:=ht _ (fL _ (getElem_mem (show j-1<out.length by omega)));omega)).call ⟨_,rfl,ab.mk (λh=>?_) (λh=>?_)⟩
    .have h:=(xY _ _).1 h;refine iT _ ⟨λq hq hjq=>?_,rfl⟩;by_cases e:q=j-1
     .subst e;exact h
     .exact C q hq (by omega)
    .refine⟨j,rfl,hj,C,.inr ⟨by omega,λbK=>?_⟩,rfl⟩;rw[(xY _ _).2 bK]at h;cases h
   .rintro H jr ⟨C,rfl⟩;exact ab.f (by simp) ⟨0,rfl,by omega,C,.inl rfl,rfl⟩
  .rintro _ _ ⟨i,rfl,hi,C,h0,rfl⟩;obtain⟨a',c',e,kE⟩:=ca.app J (qv out);simp only[PV.raw.injEq,Value.slice.injEq,length_map]at e kE;obtain⟨rfl,_,rfl⟩:=e;refine kE _ _ _ rfl rfl (by omega) (by omega) λb2 c2 u2 gy=>?_;have e1:wrap .i64 (((out.length+1:Nat):Int)-1)=((out.length:Nat):Int):=by rw[aD (by omega) (by omega)];omega
   rw[e1];refine ak.down hi (by omega) (λj u=>∃y:cS,Ow [ca 213 3 (pV (some ⟨b2,0,none⟩) (out.length+1) c2) ((out.take j++y::out.drop j).map cS.pv)] u) ⟨⟨[],[],0⟩,?_⟩ ?_ ?_
   .rw[take_length,List.drop_length,map_append];exact gy
   .rintro j u3 RO IU UN ⟨y,Q⟩ Gj;have g:((out.take j++y::out.drop j).map cS.pv).length=out.length+1:=by rw[length_map,jR]
    obtain⟨b3,e3,dF,_⟩:=ca.at_ 0 Q rfl (qv _) (j:=j-1) (by rw[g];omega);simp only[Option.some.injEq,Addr.mk.injEq]at e3;obtain⟨rfl,_⟩:=e3;obtain⟨b4,O,_,fF⟩:=ca.at_ 0 Q rfl (qv _) (j:=j) (by rw[g];omega);simp only[Option.some.injEq,Addr.mk.injEq]at O;obtain⟨rfl,_⟩:=O;have ej:wrap .i64 ((j:Int)-1)=((j-1:Nat):Int):=by rw[aD (by omega) (by omega)];omega
    rw[ej]at Gj |-;have pR:=Sl (pv:=cS.pv) out j y (by omega) UN;refine ab.t (by simpa using IU) ⟨by omega,by omega,.sh,(out[j-1]'(by omega)).tags.map fO,.sh,(out[j-1]'(by omega)).binds.map Bind.pv,(out[j-1]'(by omega)).at_,?_,by omega,by omega,?_⟩
    .rw[toNat_natCast];have:=dF 0 3 (by omega);rw[(List.getElem?_eq_some_iff.1 pR).2]at this;exact this
    .rw[toNat_natCast];refine fF 0 _ _ (by simp) λu4 A=>Gj _ ⟨out[j-1]'(by omega),?_⟩;have ew:∀r:List PV,r.length=3->du r 0 (out[j-1]'(by omega)).pv=(out[j-1]'(by omega)).pv:=λr hr=>by
      unfold du;simp[hr]
     have A:Ow [ca 213 3 (pV (some ⟨b2,0,none⟩) (out.length+1) c2) (((out.take j++y::out.drop j).map cS.pv).set j (du _ 0 (out[j-1]'(by omega)).pv))] u4:=A;rw[ew _ (qv _ _ (getElem_mem _)),IC (pv:=cS.pv) out j y (by omega) UN]at A;exact A
   .rintro u3 RO ⟨y,Q⟩;have g:((out.take i++y::out.drop i).map cS.pv).length=out.length+1:=by rw[length_map,jR]
    obtain⟨b4,O,_,fF⟩:=ca.at_ 0 Q rfl (qv _) (j:=i) (by rw[g];omega);simp only[Option.some.injEq,Addr.mk.injEq]at O;obtain⟨rfl,_⟩:=O;refine ab.f (by simp) ⟨by omega,_,aA G,_,_,_,_,_,rfl,by omega,by omega,?_⟩;rw[toNat_natCast];refine fF 0 _ _ (by simp) λu4 A=>au _ _ ⟨out.take i++ts[k]::out.drop i,by rw[jR],by rw[jR];omega,λY=>?_,λt h=>?_,?_⟩
    .have ahY:ts.take (k+1)=ts.take k++[ts[k]]:=by rw[take_add_one,getElem?_eq_getElem G];rfl
     have Y:ZN (ts.take (k+1)):=Y;rw[ahY]at Y |-;obtain⟨n1,_,n3⟩:=List.pairwise_append.1 Y;have Gh:=U n1;obtain⟨m1,m2⟩:=HS n1;rw[Oq];subst Gh;exact ZX m1 hi (λy hy=>n3 y ((m2 y).1 hy) _ (by simp)) C h0
    .rcases mem_append.1 h with h|h
     .exact fL t (mem_of_mem_take h)
     .rcases mem_cons.1 h with rfl|h
      .exact getElem_mem G
      .exact fL t (List.mem_of_mem_drop h)
    .have ew:∀r:List PV,r.length=3->du r 0 ts[k].pv=ts[k].pv:=λr hr=>by unfold du;simp[hr]
     have A:Ow [ca 213 3 (pV (some ⟨b2,0,none⟩) (out.length+1) c2) (((out.take i++y::out.drop i).map cS.pv).set i (du _ 0 ts[k].pv))] u4:=A;rw[ew _ (qv _ _ (getElem_mem _)),Ng (pv:=cS.pv) out i ts[k] y hi]at A;exact A
 .rintro⟨a,n,c⟩ u next ⟨out,rfl,I,U,fL,J⟩
  rw[take_length]at U;exact ab.f (by simp) ⟨_,ca.view 0 J rfl (qv out) (Vb out),out,rfl,I,U⟩
open K6
def PB{c:ae}{d:Int}(h:bE c d=0):c.kind=1\/c.kind=2\/c.kind=3:=by
 by_cases e:c.kind=3
 .exact .inr (.inr e)
 .by_cases i:c.kind=1
  .exact .inl i
  .by_cases g:c.kind=2
   .exact .inr (.inl g)
   .unfold bE at h;have j:(c.kind == 3)=false:=by simpa using e
    have C:(c.kind == 1)=false:=by simpa using i
    have A:(c.kind == 2)=false:=by simpa using g
    rw[j,C,A]at h;cases h
mutual
theorem Sf:∀(c:ae) (a d:Nat),(∀x∈gW c a d,bE x.2.2 x.2.1=0)->Sg c
 | .mk k g i at_ v ac cs,a,d,h=>
   ⟨PB (h (a,d,.mk k g i at_ v ac cs) (by simp[gW])),BM cs (a+1) (d+1) λx hx=>h x (by simp[gW,hx])⟩
theorem BM:∀(l:List ae) (a d:Nat),(∀x∈dd l a d,bE x.2.2 x.2.1=0)->Dl l
 |[],_,_,_=>trivial
 |c::cs,a,d,h=>⟨Sf c a d λx hx=>h x (by simp[dd,hx]),BM cs (a+aQ c) d λx hx=>h x (by simp[dd,hx])⟩
end
def si.knd{p:Prod}(h:si p):Dl p.conds:=BM _ 0 0 (Ba (ES h.chk).1)
def HH{es:List aj}{B:Int}(g:1<=B){l:List ae}(h:¬dG B es l):(((aE es l).length:Nat):Int)<=B:=by
 rcases List.eq_nil_or_concat l with rfl|⟨m,c,e⟩
 .simp[aE];exact g
 .have e:l=m++[c]:=by rw[e];simp
  subst e;rw[dv,<- jM];refine Int.not_lt.1 λi=>h ⟨m.length,by simp,0,?_⟩;rw[List.getElem_append_right (le_refl _),List.take_left];simpa using i
def Ur{q:Bool}{size e:Nat}{g new:Lq}{i:Mem}{K:Fl->Mem->Prop}(h:aR false size e .nil g new i K):aR q size e .nil g new i K:=by
 cases q<;>exact h
def Ow.JE{q:Bool}{L:List aO}{j:Mem}{size e:Nat}{new:Lq}{K:Fl->Mem->Prop}(H:Ow L j)(G:new.length*e<=140737488355328)(A:new.length<4611686018427387904)
  (C:∀i g,Ow (eX i new.length size::L) g->K i g):aR q size e .nil [] new j K:=
 Ur ((H.nil (n:=0) (.inl rfl)).app rfl (by simpa using G) (by simpa using A) λi g h=>C i g (by simpa using h))
def Wc{T g:Type}{ck:g->g->Int}{key:T->g}{L:List T}{x:T}{i:Nat}(C:i<=L.length)(A:∀(j:Nat) (h:j<L.length),j<i->ck (key L[j]) (key x)<0)(G:∀(j:Nat) (h:j<L.length),i<=j->0<ck (key L[j]) (key x)):L.take i++x::L.drop i=aZ ck key x L:=by
 unfold aZ
 rw[nc (k:=i) C (λj h e=>by simp[BB,A j h e]) (λj h e=>by have:=G j h e;simp[BB];omega),
  rb (k:=i) C (λj h e=>by have:=A j h e;simp[Gr];omega) (λj h e=>by simp[Gr,G j h e])]
structure oo where
 B:Int
 M:Int
 ps:List Prod
 es:List aj
 tk:List (List cS)
 mo:List Nat
abbrev RFl:=Fl×Fl×Fl×Fl
@[reducible] def mL(ts:List cS):List PV:=[.list 3 .sh (ts.map cS.pv)]
@[reducible] def oo.pv(x:oo)(f:RFl):List PV:=[pI x.B,pI x.M,.list 3 f.1 (x.ps.map Prod.pv),.list 12 f.2.1 (x.es.map aj.pv),.list 1 f.2.2.1 (x.tk.map mL),.list 1 f.2.2.2 (x.mo.map kD)]
def bA(r:Nat)(x:oo):aO:=λe=>∃f,Pt r 53 (x.pv f) e
def bA.open_{r:Nat}{x:oo}{L:List aO}{e:Mem}(h:Ow (bA r x::L) e):∃f,Ow (Pt r 53 (x.pv f)::L) e:=Ow.ex h
def bA.shut{r:Nat}{x:oo}{f:RFl}{L:List aO}{g:Mem}(h:Ow (Pt r 53 (x.pv f)::L) g):Ow (bA r x::L) g:=h.imp λ_ e=>⟨f,e⟩
def jV(es:List aj)(p:Prod):List cS:=Dd (cE es p.conds [Df])
def mU(es:List aj)(p:Prod):Nat:=dC (pd es p.conds)
abbrev Em(es:List aj):Prop:=es.Pairwise λa b=>a.tag≠b.tag
def DP{es:List aj}(h:Em es)(l:List ae):ZN (cE es l [Df]):=by
 have:=nL h l;rw[<- mM,pairwise_map]at this;exact this
def HI{es:List aj}(h:Em es)(p:Prod):(jV es p).map cS.tok=jY (aE es p.conds):=by
 unfold jV;rw[QX (DP h _),mM]
def AA{es:List aj}(h:Em es)(p:Prod):(jV es p).length=(aE es p.conds).length:=by
 have:=congrArg List.length (HI h p);rw[length_map,xJ (nL h _)]at this;exact this
structure gD(x:oo):Prop where
 b:1<=x.B/\x.B<=1024
 m:x.M<=1024
 Dc:ch bc eQ x.ps
 Ee:∀p∈x.ps,si p
 EG:x.ps.length<=100
 en:x.es.length<=100000
 ne:Em x.es
 tk:x.tk=x.ps.map (jV x.es)
 mo:x.mo=x.ps.map (mU x.es)
 le:∀p∈x.ps,¬dG x.B x.es p.conds
 sum:((cJ x.es x.ps:Nat):Int)<=x.M
def qd.new{b:Nat}{R:Int}{L:List aO}{e:Mem}(h:Ow (Pt b 262 [pV none 0 0,pI R,pB false]::L) e):Ow (qd b R false 0 (λ_=>0)::L) e:=qd.shut (ca.nil _ _ h).swap
def afe{es:List aj}{B:Int}(H:0<=B/\B<=1000000)(Qr:es.length<=1000000){l:List ae}(aJ:tD l)(SH:Dl l)(hs:ah l<=16){b:Nat}(fl O:Fl){L:List aO}{I:Mem}(Y:Ow (Pt b 262 [pV none 0 0,pI B,pB false]::L) I){K:Kq}
  (U:∀f o N C out g,(o=false->¬dG B es l/\out=cE es l [Df]/\dC ((range N).map C)=dC (pd es l))->(o=true->dG B es l)->N<=16->out.length<=1000001->(∀t∈out,t.tags.length<=900000)->Ow (qd b B o N C::L) g->K (.list 3 f (out.map cS.pv)) g):
  aa prog 197 [.list 7 fl (l.map ae.pv),pI 0,.list 3 .nr [[.list 1 .sh [],.list 4 .sh [],pI 0]],.list 12 O (es.map aj.pv),pP b 0] I K:=by
 refine ajD H Qr l fl .nr O 0 0 b (λ_=>0) [Df] aJ SH (by omega) (le_refl _) (λ_ _=>rfl) (by simp) (λt i=>?_) (qd.new Y) λf o N C out g J hN hz Q i Tb=>U f o N C out g (λG=>?_) (λG=>?_) (by omega) Q i Tb
 .simp only[mem_singleton]at i;subst i;simp[Df];omega
 .rcases J with⟨_,h1,rfl,h3⟩|⟨h,_⟩
  .refine⟨λDq=>?_,h3,?_⟩
   .obtain⟨j,A⟩:=(MV H.1 l).2 Dq;have:=h1 j;have:((cL es l [[]] j:Nat):Int)<=B:=this;omega
   .have e:(λj=>(λ_=>0) j+sh 0 (cL es l (lG [Df])) j)=cL es l [[]]:=by
     funext j;rw[Fx];exact zero_add _
    rw[e]at hz |-;rw[uh];exact Le hz λj A=>GN es l _ j A
  .rw[G]at h;cases h
 .rcases J with⟨h,_⟩|⟨_,j,A⟩
  .rw[G]at h;cases h
  .exact(MV H.1 l).1 ⟨j,A⟩
section
variable {r:Nat} {x:oo}
def TX(s:ByteArray)(g:x.ps.length<=1000000){L:List aO}{e:Mem}(j:Ow (bA r x::L) e){K:Kq}(G:(∀p∈x.ps,p.name≠s)->K (.aB [pI 0,pB false]) e)(C:∀(i:Nat) (h:i<x.ps.length),x.ps[i].name=s->K (.aB [pI (i:Nat),pB true]) e):
  aa prog 90 [pP r 0,pS s] e K:=by
 obtain⟨f,j⟩:=bA.open_ j;refine pz.c ?_;refine ak.each (n:=x.ps.length) (by omega) (λk u=>(∀p∈x.ps.take k,p.name≠s)/\u=e) ⟨by simp,rfl⟩ ?_ ?_
 .rintro k u next A ⟨g,rfl⟩ H
  refine⟨_,_,j.rd 0 rfl (by simp),ab.t (by simpa using A) ⟨_,_,j.rd 0 rfl (by simp),by omega,_,aA A,_,rfl,ab.mk (λh=>C k A (bM.1 h)) (λh=>H _ ⟨λp hp=>?_,rfl⟩)⟩⟩;rcases(dX A).1 hp with hp|rfl
  .exact g p hp
  .exact qw.1 h
 .rintro u next ⟨g,rfl⟩
  rw[take_length]at g;exact⟨_,_,j.rd 0 rfl (by simp),ab.f (by simp) (G g)⟩
def Tx(hB:0<=x.B/\x.B<=1000000)(Qr:x.es.length<=100000)(aW:Em x.es){p:Prod}(hp:si p)(fc fa:Fl){L:List aO}{H:Mem}(A:Ow (bA r x::L) H){K:Kq}
  (hk:∀(out:List cS) (eb:Nat) ok i,(ok=true->¬dG x.B x.es p.conds/\out=jV x.es p/\eb=mU x.es p)->(ok=false->dG x.B x.es p.conds)->out.length<=1000001->Ow (bA r x::L) i->K (.aB [.list 3 .sh (out.map cS.pv),pI (eb:Nat),pB ok]) i):
  aa prog 91 [pP r 0,.agg [pS p.name,.list 7 fc (p.conds.map ae.pv),.list 19 fa (p.bd.map cI.pv)]] H K:=by
 obtain⟨f,A⟩:=bA.open_ A;obtain⟨g1,_,_,g4,_⟩:=hp.facts;refine pt.c ?_;refine⟨_,_,A.rd 0 rfl (by simp),_,A.rd 0 rfl (by simp),?_⟩;refine rB.c λb hb=>?_;refine afe hB (by omega) g1 hp.knd g4 .sh _ (A.new _ _ hb) λf1 o N e out O h1 h2 hN hl U Q=>⟨_,_,rfl,_,_,_,rfl,?_⟩;obtain⟨a,c,g⟩:=qd.open_ Q;refine ak.cX (n:=N) (by omega) (λk y u=>y=((dC ((range k).map e):Nat):Int)/\u=O) ⟨rfl,rfl⟩ ?_ ?_
 .rintro k _ u next J ⟨rfl,rfl⟩ au
  have Hu:k<(ui N e).length:=by simpa using J
  obtain⟨b1,rfl,dF,_⟩:=ca.at_ 1 g rfl (yt N e) (j:=k) Hu;refine⟨_,_,_,g.rd 0 rfl (by simp),ab.t (by simpa using J) ⟨_,_,_,g.rd 0 rfl (by simp),by omega,by omega,((e k:Nat):Int),?_,au _ _ ⟨?_,rfl⟩⟩⟩
  .rw[toNat_natCast];have:=dF 0 1 (by omega);rw[getElem_map,List.getElem_range]at this;exact this
  .rw[List.range_succ,map_append,eL];show(if((e k:Nat):Int)>((dC ((range k).map e):Nat):Int)then((e k:Nat):Int)else((dC ((range k).map e):Nat):Int))=((max (dC ((range k).map e)) (dC [e k]):Nat):Int);rw[qM];split<;>omega
 .rintro _ u next ⟨rfl,rfl⟩
  refine⟨_,_,_,g.rd 0 rfl (by simp),ab.f (by simp) ⟨_,g.rd 0 rfl (by simp),?_⟩⟩;refine(TD f1 out (by omega) (λt h=>by have:=U t h;omega)).q λq Y=>?_;obtain⟨G,rfl,h3,h4⟩:=Y;refine⟨_,_,rfl,?_⟩;rw[Mem.pK];refine hk G _ _ u (λC=>?_) (λC=>h2 (by simpa using C)) (by omega) (bA.shut (g.drop.drop));obtain⟨e1,I,e3⟩:=h1 (by simpa using C);refine⟨e1,?_,e3⟩;have h5:=h4 (by rw[I];exact DP aW _);rw[h5,I];rfl
end
def Of{es:List aj}{ps:List Prod}{i:Nat}(e:i<ps.length):cJ es (ps.take (i+1))=cJ es (ps.take i)+(aE es ps[i].conds).length:=by
 unfold cJ;rw[eZ e,sum_append];simp
section
variable {r:Nat} {x:oo}
def Uc(hb:1<=x.B/\x.B<=1024)(hp:∀p∈x.ps,si p)(hf:x.ps.length<=100)(Qr:x.es.length<=100000)(aW:Em x.es){L:List aO}{μ:Mem}(A:Ow (bA r x::L) μ){K:Kq}
  (h25:(∃p∈x.ps,dG x.B x.es p.conds)->∀e,Ow (bA r x::L) e->K (pI 25) e)
  (h26:(¬ ∃p∈x.ps,dG x.B x.es p.conds)->x.M<((cJ x.es x.ps:Nat):Int)->∀e,Ow (bA r x::L) e->K (pI 26) e)
  (h0:(¬ ∃p∈x.ps,dG x.B x.es p.conds)->((cJ x.es x.ps:Nat):Int)<=x.M->∀e,Ow (bA r ⟨x.B,x.M,x.ps,x.es,x.ps.map (jV x.es),x.ps.map (mU x.es)⟩::L) e->K (pI 0) e):
  aa prog 93 [pP r 0] μ K:=by
 refine ot.c ?_
 refine⟨λm s u=>∃i,s.2.2.2.2=((i:Nat):Int)/\i<=x.ps.length/\m=x.ps.length-i/\∃(tk:List (List cS)) (mo:List Nat),s.1.2=tk.map mL/\s.2.1.2=mo.map kD/\tk.length=i/\mo.length=i/\s.2.2.1=(((tk.map List.length).sum:Nat):Int)/\(tk.map List.length).sum<=1000001*i/\(s.2.2.2.1=true->∃p∈x.ps,dG x.B x.es p.conds)/\
  (s.2.2.2.1=false->tk=(x.ps.take i).map (jV x.es)/\mo=(x.ps.take i).map (mU x.es)/\(tk.map List.length).sum=cJ x.es (x.ps.take i)/\∀p∈x.ps.take i,¬dG x.B x.es p.conds)/\Ow (eX s.1.1 i 1::eX s.2.1.1 i 1::bA r x::L) u,
  ⟨_,0,rfl,by omega,rfl,[],[],rfl,rfl,rfl,rfl,rfl,by simp,(λh=>by cases h),λ_=>⟨rfl,rfl,rfl,by simp⟩,(A.nil (.inl rfl)).nil (.inl rfl)⟩,?_⟩
 rintro m ⟨⟨f1,_⟩,⟨f2,_⟩,_,ov,_⟩ u ⟨i,rfl,hi,rfl,tk,mo,rfl,rfl,BQ,n_,rfl,mF,Dq,I,A⟩;dsimp only at Dq I A |-;obtain⟨f,G⟩:=bA.open_ (Ow.ord [2] A);refine⟨_,_,G.rd 0 rfl (by simp),ab.mk (λh=>?_) (λh=>?_)⟩
 .have h:i<x.ps.length:=by simpa using h
  have hm:=getElem_mem h;refine⟨_,_,G.rd 0 rfl (by simp),by omega,_,aA h,_,_,_,_,_,rfl,?_⟩;refine Tx (r:=r) (x:=x) (by omega) Qr aW (hp _ hm) .sh .sh (Ow.ord [2] A) λout eb ok u1 w1 w2 w3 H=>⟨_,_,_,_,rfl,?_⟩;refine⟨λs u'=>s=(ov|| !ok)/\u'=u1,ab.mk (λh=>by subst h;exact⟨rfl,rfl⟩) (λh=>by subst h;exact⟨rfl,rfl⟩),?_⟩;rintro _ _ ⟨rfl,rfl⟩;have xy:Ow (eX f1 i 1::eX f2 i 1::bA r x::L) _:=Ow.ord [1,1,0] H;refine xy.app (by rw[length_map,BQ]) (by simp;omega) (by simp;omega) λf3 u2 qo=>?_;refine(Ow.swap qo).app (by rw[length_map,n_]) (by simp;omega) (by simp;omega) λf4 u3 yl=>?_;have e1:((tk++[out]).map List.length).sum=(tk.map List.length).sum+out.length:=by rw[map_append,sum_append];simp
  refine⟨x.ps.length-(i+1),by omega,i+1,by rw[aD (by omega) (by omega)];rfl,by omega,rfl,tk++[out],mo++[eb],by rw[map_append];rfl,by rw[map_append];rfl,by simp[BQ],by simp[n_],?_,by rw[e1];omega,λg=>?_,λg=>?_,Ow.swap yl⟩
  .rw[e1,length_map,aD (by omega) (by omega)];rfl
  .rcases Bool.or_eq_true_iff.1 g with j|j
   .exact Dq j
   .exact⟨_,hm,w2 (by simpa using j)⟩
  .obtain⟨j,h2⟩:=Bool.or_eq_false_iff.1 g;obtain⟨U,Q,O,J⟩:=I j;obtain⟨v1,rfl,rfl⟩:=w1 (by simpa using h2);refine⟨by rw[U,eZ h],by rw[Q,eZ h],by rw[e1,O,Of h,AA aW],λp C=>?_⟩;rcases(dX h).1 C with C|rfl
   .exact J p C
   .exact v1
 .have h:i=x.ps.length:=by simp at h;omega
  subst h;rw[take_length]at I;have H:=Ow.ord [2] A;refine ab.mk (λg=>h25 (Dq g) _ (H.tail λ_ h=>h.drop.drop)) (λg=>⟨_,G.rd 0 rfl (by simp),?_⟩);obtain⟨U,Q,O,J⟩:=I g;have hn:¬ ∃p∈x.ps,dG x.B x.es p.conds:=λ⟨p,C,hv⟩=>J p C hv;rw[O];refine ab.mk (λY=>h26 hn (by simpa using Y) _ (H.tail λ_ h=>h.drop.drop)) (λY=>?_);dsimp only[nP,nn,aM];refine G.st 0 rfl (by simp) λu1 j=>j.st 0 rfl (by simp[du]) λu2 h2=>h0 hn (by simpa using Y) _ ?_;subst U Q;exact(bA.shut (x:=⟨x.B,x.M,x.ps,x.es,x.ps.map (jV x.es),x.ps.map (mU x.es)⟩) (f:=(f.1,f.2.1,f1,f2)) h2).tail λ_ h=>h.drop.drop
def gD.add(h:gD x){p:Prod}(hp:si p)(C:aL bc eQ p.name x.ps=none)(j:¬dG x.B x.es p.conds)(A:((cJ x.es x.ps+(aE x.es p.conds).length:Nat):Int)<=x.M)(G:x.ps.length+1<=100):gD ⟨x.B,x.M,aZ bc eQ p x.ps,x.es,(aZ bc eQ p x.ps).map (jV x.es),(aZ bc eQ p x.ps).map (mU x.es)⟩:=by
 have g:=nZ (ck:=bc) (key:=eQ) bX (L:=x.ps) (x:=p) C;have i:∀q∈aZ bc eQ p x.ps,q=p\/q∈x.ps:=λq e=>by rw[g.mem_iff]at e;simpa using e
 refine⟨h.b,h.m,h.Dc.ins bX p,λq e=>?_,by show(aZ bc eQ p x.ps).length<=100;rw[g.length_eq];simpa using G,h.en,h.ne,rfl,rfl,λq e=>?_,?_⟩
 .rcases i q e with rfl|e
  .exact hp
  .exact h.Ee q e
 .rcases i q e with rfl|e
  .exact j
  .exact h.le q e
 .show((cJ x.es (aZ bc eQ p x.ps):Nat):Int)<=x.M;rw[xG g];unfold cJ at A |-;simp only[map_cons,sum_cons];omega
def abr(h:gD x)(Q:x.ps.length+1<=100)(fc fa:Fl)(p:Prod)(hlp:bO p.conds)(Gg:ah p.conds<=1000000)(SY:p.bd.length<=1000000){L:List aO}{μ:Mem}(hO:Ow (bA r x::L) μ){K:Kq}
  (hk:∀e Ec x' μ',vb x.B x.M x.es x.ps p e Ec->gD x'->x'.B=x.B->x'.M=x.M->x'.es=x.es->x'.ps=Ec->Ow (bA r x'::L) μ'->K (pI e) μ'):
  aa prog 41 [pP r 0,.agg [pS p.name,.list 7 fc (p.conds.map ae.pv),.list 19 fa (p.bd.map cI.pv)]] μ K:=by
 have BV:=h.EG;have hen:=h.en;obtain⟨b1,b2⟩:=h.b;refine qh.c ?_;refine(Xh .sh .sh p hlp Gg SY).call ⟨_,_,rfl,ab.mk (λhc=>?_) (λhc=>?_)⟩
 .exact hk _ _ x _ (.form (by simpa using hc)) h rfl rfl rfl rfl hO
 have hc:(b_ p).2.1=0:=by simpa using hc
 have hp:si p:=⟨hc,hlp⟩
 refine TX p.name (by omega) hO (λbT=>⟨_,_,rfl,ab.f rfl ?_⟩) λi I he=>⟨_,_,rfl,ab.t rfl (hk _ _ x _ (.there hc (by
  cases hg:aL bc eQ p.name x.ps with
  |none=>exact absurd he ((bD bX).1 hg _ (getElem_mem I))
  |some q=>rfl)) h rfl rfl rfl rfl hO)⟩
 have hg:aL bc eQ p.name x.ps=none:=(bD bX).2 bT;refine Tx (by omega) (by omega) h.ne hp .sh .sh hO λout eb ok u1 w1 w2 w3 rQ=>⟨_,_,_,_,rfl,ab.mk (λho=>?_) (λho=>?_)⟩
 .exact hk _ _ x _ (.dW hc hg (w2 (by simpa using ho))) h rfl rfl rfl rfl rQ
 obtain⟨Dq,rfl,rfl⟩:=w1 (by simpa using ho);have gF:=h.tk;have hmo:=h.mo;have BQ:x.tk.length=x.ps.length:=by rw[gF,length_map]
 have yg:x.mo.length=x.ps.length:=by rw[hmo,length_map]
 have C:=λq=>AA h.ne q;have am1:=HH b1 Dq;have Yh:∀k,((x.tk.take k).map List.length).sum=cJ x.es (x.ps.take k):=λk=>by
  rw[gF,<- map_take,map_map];unfold cJ;congr 1;exact map_congr_left λq _=>C q
 have ki:∀k,cJ x.es (x.ps.take k)<=1024:=λk=>by
  have A:=h.sum;have G:cJ x.es x.ps=cJ x.es (x.ps.take k)+cJ x.es (x.ps.drop k):=by
   unfold cJ;rw[<- sum_append,<- map_append,List.take_append_drop]
  have h3:=h.m;omega
 obtain⟨f,H⟩:=bA.open_ rQ;refine ak.cX (n:=x.tk.length) (by omega) (λk y u=>y=(((jV x.es p).length+cJ x.es (x.ps.take k):Nat):Int)/\u=u1) ⟨by simp[cJ],rfl⟩ ?_ ?_
 .rintro k _ u next bZ ⟨rfl,rfl⟩ au
  refine⟨_,_,H.rd 0 rfl (by simp),ab.t (by simpa using bZ) ⟨_,_,H.rd 0 rfl (by simp),by omega,_,aA bZ,_,_,rfl,au _ _ ⟨?_,rfl⟩⟩⟩;have A:=Yh (k+1);rw[eZ bZ,sum_append,Yh k]at A;have G:=ki (k+1);rw[length_map,C];simp only[sum_cons,List.sum_nil]at A;rw[aD (by omega) (by omega)];omega
 rintro _ u next ⟨rfl,rfl⟩
 rw[BQ,take_length,C];refine⟨_,_,H.rd 0 rfl (by simp),ab.f (by simp[BQ]) ⟨_,H.rd 0 rfl (by simp),ab.mk (λhs=>?_) (λhs=>?_)⟩⟩
 .have hs:x.M<(((aE x.es p.conds).length+cJ x.es x.ps:Nat):Int):=by simpa using hs
  exact hk _ _ x _ (.eb hc hg Dq (by omega)) h rfl rfl rfl rfl rQ
 have hs:(((aE x.es p.conds).length+cJ x.es x.ps:Nat):Int)<=x.M:=by simpa using hs
 refine⟨λs J=>∃i:Nat,s=(i:Int)/\i<=x.ps.length/\(∀(j:Nat) (h:j<x.ps.length),j<i->bc x.ps[j].name p.name<0)/\(∀h:i<x.ps.length,¬bc x.ps[i].name p.name<0)/\J=u,?_,?_⟩
 .refine ak.each (n:=x.ps.length) (by omega) (λk J=>(∀(j:Nat) (h:j<x.ps.length),j<k->bc x.ps[j].name p.name<0)/\J=u) ⟨λj A G=>by omega,rfl⟩ ?_ ?_
  .rintro k J jr bZ ⟨Y,rfl⟩ iT;refine⟨_,_,H.rd 0 rfl (by simp),ab.t (by simpa using bZ) ⟨_,_,H.rd 0 rfl (by simp),by omega,_,aA bZ,_,rfl,ab.mk (λQ=>iT _ ⟨λj A G=>?_,rfl⟩) (λQ=>⟨k,rfl,by omega,Y,λ_ bK=>?_,rfl⟩)⟩⟩
   .by_cases e:j=k
    .subst e;exact mi.2 Q
    .exact Y j A (by omega)
   .rw[mi.1 bK]at Q;cases Q
  .rintro J jr ⟨Y,rfl⟩;exact⟨_,_,H.rd 0 rfl (by simp),ab.f (by simp) ⟨x.ps.length,rfl,by omega,Y,λh=>absurd h (by omega),rfl⟩⟩
 .rintro _ _ ⟨i,rfl,I,Y,pR,rfl⟩;have U:x.ps.take i++p::x.ps.drop i=aZ bc eQ p x.ps:=by
   refine Wc I Y λj hj IU=>?_;have aW:∀(q:Nat) (h:q<x.ps.length),bc x.ps[q].name p.name≠0:=λq hq e=>bT _ (getElem_mem hq) ((bX.zero _ _).1 e);have A:0<bc (eQ x.ps[i]) (eQ p):=by
    have a1:=pR (by omega);have a2:=aW i (by omega);show 0<bc x.ps[i].name p.name;omega
   by_cases e:j=i
   .subst e;exact A
   .have G:=List.pairwise_iff_getElem.1 h.Dc i j (by omega) hj (by omega);have h3:=(bX.flip (eQ p) (eQ x.ps[i])).2 A;exact(bX.flip _ _).1 (bX.trans _ _ _ h3 G)
  have e0:toNat (0:Int)=0:=rfl;have ei:toNat ((i:Nat):Int)=i:=rfl;refine⟨λs J=>s.2=((x.ps.take i++[p]).map Prod.pv)/\Ow (eX s.1 (i+1) 3::Pt r 53 (x.pv f)::L) J,?_,?_⟩
  .have go:∀{u:Mem} (O:Ow (Pt r 53 (x.pv f)::L) u),aR true 3 64 .nil [] (drop (toNat (0:Int)) (take (toNat ((i:Nat):Int)) (x.ps.map Prod.pv))) u λf98 XI=>aR false 3 64 f98 ([]++(drop (toNat (0:Int)) (take (toNat ((i:Nat):Int)) (x.ps.map Prod.pv)))) [[pS p.name,.list 7 .sh (p.conds.map ae.pv),.list 19 .sh (p.bd.map cI.pv)]] XI λf101 U_=>([]++drop (toNat (0:Int)) (take (toNat ((i:Nat):Int)) (x.ps.map Prod.pv)))++[[pS p.name,.list 7 .sh (p.conds.map ae.pv),.list 19 .sh (p.bd.map cI.pv)]]=((x.ps.take i++[p]).map Prod.pv)/\Ow (eX f101 (i+1) 3::Pt r 53 (x.pv f)::L) U_:=λO=>by
    rw[e0,ei,drop_zero,<- map_take,nil_append];have UL:(x.ps.take i).length=i:=by rw[length_take];omega
    refine Ow.JE O (by simp;omega) (by simp;omega) λf1 u1 A=>A.app rfl (by simp;omega) (by simp;omega) λf2 u2 G=>⟨by rw[map_append];rfl,?_⟩;rw[length_map,UL]at G;exact G
   exact⟨_,_,H.rd 0 rfl (by simp),by omega,by omega,by simpa using I,go H,go H⟩
  .rintro⟨f1,_⟩ u1 ⟨rfl,A⟩;dsimp only at A |-;have hd:∀{T:Type} (l:List T) (g:T->List PV),l.length=x.ps.length->drop (toNat ((i:Nat):Int)) (take (toNat (((l.map g).length:Nat):Int)) (l.map g))=(l.drop i).map g:=λl g Q=>by
    rw[ei,toNat_natCast,take_length,<- map_drop]
   have ht:∀{T:Type} (l:List T) (g:T->List PV),[]++drop (toNat (0:Int)) (take (toNat ((i:Nat):Int)) (l.map g))=(l.take i).map g:=λl g=>by
    rw[e0,ei,drop_zero,<- map_take,nil_append]
   have An:∀{T:Type} (l:List T) (g:T->List PV),drop (toNat (0:Int)) (take (toNat ((i:Nat):Int)) (l.map g))=(l.take i).map g:=λl g=>by
    rw[e0,ei,drop_zero,<- map_take]
   have Ec:(x.ps.take i++[p]).map Prod.pv++(x.ps.drop i).map Prod.pv=(aZ bc eQ p x.ps).map Prod.pv:=by rw[<- U,<- map_append];simp
   have vd:((x.tk.take i).map mL++[[.list 3 .sh ((jV x.es p).map cS.pv)]])++(x.tk.drop i).map mL=((aZ bc eQ p x.ps).map (jV x.es)).map mL:=by
    rw[<- U,gF,<- map_take,<- map_drop];simp
   have mo':((x.mo.take i).map kD++[[pI ((mU x.es p:Nat):Int)]])++(x.mo.drop i).map kD=((aZ bc eQ p x.ps).map (mU x.es)).map kD:=by
    rw[<- U,hmo,<- map_take,<- map_drop];simp
   have UL:(x.ps.take i).length=i:=by rw[length_take];omega
   refine⟨_,_,A.rd 1 rfl (by simp),by omega,by simpa using I,by omega,?_⟩;rw[hd x.ps Prod.pv rfl];refine A.app (by simp[UL];omega) (by simp;omega) (by simp;omega) λf2 u2 G=>?_;dsimp only[nP,nn,aM];refine G.st 1 rfl (by simp) λu3 h3=>?_;rw[Ec]at h3;refine⟨_,_,h3.rd 1 rfl (by simp[du]),by omega,by omega,by simpa[BQ]using I,?_⟩;rw[ht x.tk mL,An x.tk mL];have amt:(x.tk.take i).length=i:=by rw[length_take];omega
   refine Ow.JE h3.drop (by simp;omega) (by simp;omega) λf3 u4 h4=>h4.app (by simp) (by simp;omega) (by simp;omega) λf4 u5 h5=>?_;refine⟨_,_,h5.rd 1 rfl (by simp[du]),by omega,by simpa[BQ]using I,by omega,?_⟩;rw[hd x.tk mL BQ];refine h5.app (by simp) (by simp;omega) (by simp;omega) λf5 u6 h6=>?_;refine h6.st 1 rfl (by simp[du]) λu7 h7=>?_;rw[vd]at h7;refine⟨_,_,h7.rd 1 rfl (by simp[du]),by omega,by omega,by simpa[yg]using I,?_⟩;rw[ht x.mo kD,An x.mo kD];refine Ow.JE h7.drop (by simp;omega) (by simp;omega) λf6 u8 h8=>h8.app (by simp) (by simp;omega) (by simp;omega) λf7 u9 h9=>?_;refine⟨_,_,h9.rd 1 rfl (by simp[du]),by omega,by simpa[yg]using I,by omega,?_⟩;rw[hd x.mo kD yg];refine h9.app (by simp) (by simp;omega) (by simp;omega) λf8 u10 rR=>?_;refine rR.st 1 rfl (by simp[du]) λu11 BY=>?_;rw[mo']at BY;refine hk 0 (aZ bc eQ p x.ps) ⟨x.B,x.M,aZ bc eQ p x.ps,x.es,(aZ bc eQ p x.ps).map (jV x.es),(aZ bc eQ p x.ps).map (mU x.es)⟩ _ (.ok hc hg Dq (by omega)) (h.add hp hg Dq (by omega) Q) rfl rfl rfl rfl ?_;exact bA.shut (x:=⟨x.B,x.M,aZ bc eQ p x.ps,x.es,(aZ bc eQ p x.ps).map (jV x.es),(aZ bc eQ p x.ps).map (mU x.es)⟩) (f:=(f2,f.2.1,f5,f8)) BY.drop
end
def HM{es fs:List aj}(h:es.Perm fs)(ps:List Prod):cJ es ps=cJ fs ps:=by
 unfold cJ;congr 1;exact map_congr_left λp _=>(lI h p.conds).length_eq
section
variable {B M:Int} {es fs:List aj} {ps:List Prod}
def vb.perm(hp:es.Perm fs){p:Prod}{e:Int}{H:List Prod}(h:vb B M fs ps p e H):vb B M es ps p e H:=by
 have j:=tC hp (B:=B) (l:=p.conds);have C:=HM hp ps;have G:=(lI hp p.conds).length_eq;cases h with
 |form h=>exact .form h
 |there h g=>exact .there h g
 |dW h g i=>exact .dW h g (j.2 i)
 |eb h g i A=>exact .eb h g (λh=>i (j.1 h)) (by rw[C,G];exact A)
 |ok h g i A=>exact .ok h g (λh=>i (j.1 h)) (by rw[C,G];exact A)
def vb.uniq{p:Prod}{e C:Int}{A j:List Prod}(h:vb B M es ps p e A)(k:vb B M es ps p C j):e=C/\A=j:=by
 cases h with
 |form h=>cases k with
  |form=>exact⟨rfl,rfl⟩
  |there k=>exact absurd k h
  |dW k=>exact absurd k h
  |eb k=>exact absurd k h
  |ok k=>exact absurd k h
 |there h g=>cases k with
  |form k=>exact absurd h k
  |there=>exact⟨rfl,rfl⟩
  |dW _ k=>rw[k]at g;cases g
  |eb _ k=>rw[k]at g;cases g
  |ok _ k=>rw[k]at g;cases g
 |dW h g i=>cases k with
  |form k=>exact absurd h k
  |there _ k=>rw[g]at k;cases k
  |dW=>exact⟨rfl,rfl⟩
  |eb _ _ k=>exact absurd i k
  |ok _ _ k=>exact absurd i k
 |eb h g i G=>cases k with
  |form k=>exact absurd h k
  |there _ k=>rw[g]at k;cases k
  |dW _ _ k=>exact absurd k i
  |eb=>exact⟨rfl,rfl⟩
  |ok _ _ _ k=>omega
 |ok h g i G=>cases k with
  |form k=>exact absurd h k
  |there _ k=>rw[g]at k;cases k
  |dW _ _ k=>exact absurd k i
  |eb _ _ _ k=>omega
  |ok=>exact⟨rfl,rfl⟩
def GC(hp:es.Perm fs){d:List Int}:e_ es d↔e_ fs d:=by
 unfold e_;simp only[hp.mem_iff]
def JJ(hp:es.Perm fs){a:List aj}{d:List Int}:eT es a d↔eT fs a d:=by
 unfold eT;simp only[hp.mem_iff]
def Qe(hp:es.Perm fs){a:List aj}{d:List Int}{l:List aj}:wG es a d l↔wG fs a d l:=by
 unfold wG;simp only[hp.mem_iff]
variable {add:List aj} {drop:List Int}
def nC.same(hp:es.Perm fs){e Y:Int}{O L:List aj}(h:nC B M es ps add drop e O)(k:nC B M fs ps add drop Y L):e=Y/\O.Perm L:=by
 have H:=GC hp (d:=drop);have ha:=JJ hp (a:=add) (d:=drop);have J:∀{l A:List aj},wG es add drop l->wG fs add drop A->l=A:=λh k=>h.uniq ((Qe hp).2 k);cases h with
 |form h=>cases k with
  |form=>exact⟨rfl,hp⟩
  |none k=>exact absurd k h
  |there k=>exact absurd k h
  |dW k=>exact absurd k h
  |eb k=>exact absurd k h
  |ok k=>exact absurd k h
 |none h i=>cases k with
  |form k=>exact absurd h k
  |none=>exact⟨rfl,hp⟩
  |there _ k=>exact absurd (H.2 k) i
  |dW _ k=>exact absurd (H.2 k) i
  |eb _ k=>exact absurd (H.2 k) i
  |ok _ k=>exact absurd (H.2 k) i
 |there h i G=>cases k with
  |form k=>exact absurd h k
  |none _ k=>exact absurd (H.1 i) k
  |there=>exact⟨rfl,hp⟩
  |dW _ _ k=>exact absurd (ha.2 k) G
  |eb _ _ k=>exact absurd (ha.2 k) G
  |ok _ _ k=>exact absurd (ha.2 k) G
 |dW h i G l C I=>cases k with
  |form k=>exact absurd h k
  |none _ k=>exact absurd (H.1 i) k
  |there _ _ k=>exact absurd (ha.1 G) k
  |dW=>exact⟨rfl,hp⟩
  |eb _ _ _ A g j=>rw[J C g]at I;exact absurd I j
  |ok _ _ _ A g j=>rw[J C g]at I;exact absurd I j
 |eb h i G l C I U=>cases k with
  |form k=>exact absurd h k
  |none _ k=>exact absurd (H.1 i) k
  |there _ _ k=>exact absurd (ha.1 G) k
  |dW _ _ _ A g j=>rw[<- J C g]at j;exact absurd j I
  |eb=>exact⟨rfl,hp⟩
  |ok _ _ _ A g j Q=>rw[J C g]at U;omega
 |ok h i G l C I U=>cases k with
  |form k=>exact absurd h k
  |none _ k=>exact absurd (H.1 i) k
  |there _ _ k=>exact absurd (ha.1 G) k
  |dW _ _ _ A g j=>rw[<- J C g]at j;exact absurd j I
  |eb _ _ _ A g j Q=>rw[<- J C g]at Q;omega
  |ok _ _ _ A g=>rw[J C g];exact⟨rfl,List.Perm.refl _⟩
def nC.up(i:ch aw aF es){e:Int}{g:List aj}(h:nC B M es ps add drop e g):ch aw aF g:=by
 cases h with
 |ok _ _ _ _ j=>exact j.1
 |_=>exact i
end
def qN(es:List aj)(p:Prod):List Mt:=(jV es p).map λt=>⟨p.name,t.tags⟩
def VZ{es:List aj}(h:Em es)(p:Prod):qN es p=qO es p:=by
 unfold qN qO;rw[<- HI h,map_map];rfl
def OW{es fs:List aj}(h:es.Perm fs)(e:Em es)(p:Prod):qO es p=qO fs p:=by
 unfold qO;rw[KH (nL e p.conds) (lI h p.conds)]
def PX{es fs:List aj}(h:es.Perm fs)(e:Em es)(ps:List Prod):allM es ps=allM fs ps:=by
 unfold allM;congr 1;funext p;exact OW h e p
def Lb{es fs:List aj}(h:es.Perm fs)(ps:List Prod):lW es ps=lW fs ps:=by
 unfold lW;congr 2;funext p;exact GG h p.conds
structure Ad(x:NC)(es:List aj)(ps:List Prod)(y:oo):Prop where
 ok:gD y
 B:y.B=x.T
 M:y.M=x.M
 ps:y.ps=ps
 up:ch aw aF es
 es:es.Perm y.es
def Ad.ne{x:NC}{es:List aj}{ps:List Prod}{y:oo}(h:Ad x es ps y):Em es:=HF h.up
def Ad.all{x:NC}{es:List aj}{ps:List Prod}{y:oo}(h:Ad x es ps y):y.ps.flatMap (qN y.es)=allM es ps:=by
 rw[PX h.es h.ne,h.ps];unfold allM;congr 1;funext p;exact VZ h.ok.ne p
def AH{l:List aj}(h:(l.map aF).Nodup):l.Nodup:=List.Pairwise.of_map aF (λa b h e=>h (congrArg aF e)) h
def HE{l:List aj}(h:ch aw aF l):l.Nodup:=AH (jF h)
def OO{l:List aj}(h:Em l):(l.map aF).Nodup:=by rw[List.nodup_iff_pairwise_ne,pairwise_map];exact h
def OM{l:List aj}(h:(l.map aF).Nodup):Em l:=by rw[List.nodup_iff_pairwise_ne,pairwise_map]at h;exact h
def acV{l:List aj}(h:Em l):∃l',ch aw aF l'/\l'.Perm l:=by
 have i:=OO h;have g:ch aw aF (cx l []):=lH l Pairwise.nil;refine⟨cx l [],g,(List.perm_ext_iff_of_nodup (HE g) (AH i)).2 λe=>?_⟩;rw[fJ i (by simp)];simp
def dy(es:List aj)(d:List Int):List aj:=es.filter λe=>decide (e.tag∉d)
def iu{e:Type}{l:List e}{i:Nat}(h:i<l.length):l.take (i+1)=l.take i++[l[i]]:=by rw[take_add_one,getElem?_eq_getElem h];rfl
def uf{es:List aj}{d:List Int}{i:Nat}(h:i<d.length):(dy es (d.take i)).filter (λe=> !(e.tag == d[i]))=dy es (d.take (i+1)):=by
 unfold dy;rw[List.filter_filter,iu h];refine List.filter_congr λe _=>?_;simp only[mem_append,mem_singleton,not_or];by_cases j:e.tag=d[i]<;>by_cases g:e.tag∈d.take i<;>simp[j,g]<;>simp_all
def wh{g:Type}{p:g->Bool}:∀{l:List g},(l.filter p).length=l.length->∀x∈l,p x=true
 |[],_,_,h=>by simp at h
 |y::l,h,x,e=>by
  have i:=List.length_filter_le p l
  rw[filter_cons]at h;cases hp:p y with
  |false=>
   rw[hp]at h;simp only[Bool.false_eq_true,if_false,length_cons]at h;omega
  |true=>
   rw[hp]at h;simp only[if_true,length_cons]at h;rcases mem_cons.1 e with rfl|e
   .exact hp
   .exact wh (by omega) x e
def LG{es:List aj}{d:List Int}{i:Nat}(h:i<d.length)(A:(dy es (d.take (i+1))).length=(dy es (d.take i)).length):¬e_ es d:=by
 rintro⟨C,J⟩;rw[<- uf h]at A;obtain⟨e,I,g⟩:=J _ (getElem_mem h);have L:d[i]∉d.take i:=λG=>by
  obtain⟨j,H,e⟩:=mem_iff_getElem.1 G;rw[getElem_take]at e;rw[length_take]at H;have:=(List.getElem_inj C).1 e;omega
 have:=wh A e (mem_filter.2 ⟨I,by rw[g];simpa using L⟩);simp[g]at this
def GB{es:List aj}{d:List Int}{i:Nat}(h:i<d.length)(H:e_ es (d.take i))(J:(dy es (d.take (i+1))).length≠(dy es (d.take i)).length):e_ es (d.take (i+1)):=by
 obtain⟨I,L⟩:=H;have:∃e∈dy es (d.take i),e.tag=d[i]:=by
  refine Classical.byContradiction λhc=>J ?_;rw[<- uf h];congr 1;refine filter_eq_self.2 λe j=>?_;have:e.tag≠d[i]:=λQ=>hc ⟨e,j,Q⟩;simpa using this
 obtain⟨e,j,A⟩:=this;obtain⟨O,G⟩:=mem_filter.1 j;rw[iu h];refine⟨?_,λt g=>?_⟩
 .rw[List.nodup_append];refine⟨I,by simp,λa ha b C=>?_⟩;simp only[mem_singleton]at C;subst C;rintro rfl;rw[A]at G;simp[ha]at G
 .rcases mem_append.1 g with g|g
  .exact L t g
  .simp only[mem_singleton]at g;exact⟨e,O,by rw[g,A]⟩
def PY{es add:List aj}{d:List Int}{k:Nat}(h:k<add.length)(G:∃e∈dy es d++add.take k,e.tag=add[k].tag):¬eT es add d:=by
 rintro⟨A,ha⟩;obtain⟨e,g,i⟩:=G;rcases mem_append.1 g with g|g
 .obtain⟨I,H⟩:=mem_filter.1 g;have:=ha _ (getElem_mem h) ⟨e,I,i⟩;rw[<- i]at this;simp[this]at H
 .obtain⟨j,C,rfl⟩:=mem_iff_getElem.1 g;rw[getElem_take]at i;rw[length_take]at C;have L:j<(add.map aF).length:=by rw[length_map];omega
  have J:k<(add.map aF).length:=by rw[length_map];omega
  have:(add.map aF)[j]=(add.map aF)[k]:=by rw[getElem_map,getElem_map];exact i
  have:=(List.getElem_inj A).1 this;omega
def JI{es add:List aj}{d:List Int}{k:Nat}(h:k<add.length)(G:eT es (add.take k) d)(A:∀e∈dy es d++add.take k,e.tag≠add[k].tag):eT es (add.take (k+1)) d:=by
 obtain⟨H,ha⟩:=G;rw[iu h];refine⟨?_,λa g=>?_⟩
 .rw[map_append,List.nodup_append];refine⟨H,by simp,λa ha b j=>?_⟩;simp only[map_cons,List.map_nil,mem_singleton]at j;subst j;rintro rfl;obtain⟨x,C,e⟩:=mem_map.1 ha;exact A x (mem_append.2 (.inr C)) e
 .rcases mem_append.1 g with g|g
  .exact ha a g
  .simp only[mem_singleton]at g;subst g;rintro⟨e,I,i⟩;refine Classical.byContradiction λhc=>A e (mem_append.2 (.inl (mem_filter.2 ⟨I,?_⟩))) i;rw[i];simpa using hc
def aa2{es add:List aj}{d:List Int}(g:Em es)(ha:eT es add d):Em (dy es d++add):=by
 refine List.pairwise_append.2 ⟨g.filter _,OM ha.1,λa A b j e=>?_⟩;obtain⟨i,h⟩:=mem_filter.1 A;have:=ha.2 b j ⟨a,i,e⟩;rw[<- e]at this;simp[this]at h
def W_{es add:List aj}{d:List Int}{l':List aj}(g:ch aw aF l')(hp:l'.Perm (dy es d++add)):wG es add d l':=by
 refine⟨g,λe=>?_⟩;rw[hp.mem_iff,mem_append,dy,mem_filter];simp only[decide_eq_true_eq];exact or_comm
def Eo{e:Type}(f:e->List Nat):∀l:List e,dC (l.flatMap f)=dC (l.map λx=>dC (f x))
 |[]=>rfl
 |x::l=>by rw[List.flatMap_cons,map_cons,eL,OU,Eo f l]
def Ad.eb{x:NC}{es:List aj}{ps:List Prod}{y:oo}(h:Ad x es ps y):dC y.mo=lW es ps:=by
 rw[Lb h.es,h.ok.mo,h.ps];unfold lW;rw[Eo];rfl
def AO{e:Type}(f:e->Nat)(p:e->Bool):∀l:List e,((l.filter p).map f).sum<=(l.map f).sum
 |[]=>le_refl _
 |x::l=>by
  have:=AO f p l
  rw[filter_cons];split<;>simp only[map_cons,sum_cons]<;>omega
def QR{es:List aj}{A P:List Prod}(j:ch bc eQ A)(i:ch bc eQ P)(h:∀q∈A,q∈P):cJ es A<=cJ es P:=by
 classical
 have e:A=P.filter λq=>decide (q∈A):=ch.ext bX j (i.filter _) λq=>by
  rw[mem_filter,decide_eq_true_eq];exact⟨λg=>⟨h q g,g⟩,λg=>g.2⟩
 rw[e];unfold cJ;exact AO _ _ _
def Ps{j:Type}{l:List j}{k:Nat}(C:k<l.length){p:j->Bool}(G:p l[k]=false)(A:∀(i:Nat) (g:i<l.length),i≠k->p l[i]=true):l.filter p=l.take k++l.drop (k+1):=by
 have e:l.filter p=(l.take k++l[k]::l.drop (k+1)).filter p:=by rw[<- List.drop_eq_getElem_cons C,List.take_append_drop]
 rw[e,filter_append,filter_cons,if_neg (by simp[G])];congr 1
 .refine filter_eq_self.2 λx h=>?_;obtain⟨i,g,rfl⟩:=mem_iff_getElem.1 h;rw[length_take]at g;rw[getElem_take];exact A i (by omega) (by omega)
 .refine filter_eq_self.2 λx h=>?_;obtain⟨i,g,rfl⟩:=mem_iff_getElem.1 h;rw[List.length_drop]at g;rw[List.getElem_drop];exact A _ (by omega) (by omega)
def Tp{ps:List Prod}(C:ch bc eQ ps){i:Nat}(g:i<ps.length):ps.take i++ps.drop (i+1)=bu bc eQ ps[i].name ps:=by
 symm;refine Ps g ?_ λj G H=>?_
 .have:Ck bc eQ ps[i].name ps[i]=true:=by unfold Ck;simp[bX.zero,eQ]
  rw[this];rfl
 .have:¬Ck bc eQ ps[i].name ps[j]=true:=by
   unfold Ck;simp only[decide_eq_true_eq,bX.zero];intro e;have e:ps[j].name=ps[i].name:=e;rcases Nat.lt_or_gt_of_ne H with h|h
   .have A:bc ps[j].name ps[i].name<0:=List.pairwise_iff_getElem.1 C j i G g h;rw[e,bX.self]at A;omega
   .have A:bc ps[i].name ps[j].name<0:=List.pairwise_iff_getElem.1 C i j g G h;rw[e,bX.self]at A;omega
  simpa using this
def Ma{S T:Type}{g:S->T}{pv:T->List PV}{l:List S}{k:Nat}(e:k<l.length):((l.map g).map pv)[toNat (k:Int)]?=some (pv (g l[k])):=by
 rw[map_map];exact aA e
def Av{ps:List Prod}(e:ch bc eQ ps){i:Nat}(g:i<ps.length):aL bc eQ ps[i].name ps=some ps[i]:=(bf bX e).2 ⟨getElem_mem g,rfl⟩
section
variable {r:Nat} {x:oo}
def gD.XL(h:gD x){p:Prod}(hp:p∈x.ps):(jV x.es p).length<=1024:=by
 have g:=HH h.b.1 (h.le p hp);have e:=h.b.2;rw[AA h.ne];omega
def vK(es:List aj)(p:Prod):(qN es p).length=(jV es p).length:=by unfold qN;rw[length_map]
def gD.aaT(h:gD x)(i:Nat):((x.ps.take i).flatMap (qN x.es)).length<=102400:=by
 rw[List.length_flatMap];have e:=Ft (l:=x.ps.take i) (f:=λp=>(qN x.es p).length) (b:=1024) λp hp=>by rw[vK];exact h.XL (mem_of_mem_take hp)
 have g:=h.EG;rw[length_take]at e;omega
def gD.del(h:gD x){i:Nat}(j:i<x.ps.length):gD ⟨x.B,x.M,bu bc eQ x.ps[i].name x.ps,x.es,(bu bc eQ x.ps[i].name x.ps).map (jV x.es),(bu bc eQ x.ps[i].name x.ps).map (mU x.es)⟩:=by
 have g:∀q∈bu bc eQ x.ps[i].name x.ps,q∈x.ps:=λq e=>((ee bX).1 e).1;refine⟨h.b,h.m,h.Dc.del _,λq e=>h.Ee q (g q e),le_trans rh h.EG,h.en,h.ne,rfl,rfl,λq e=>h.le q (g q e),?_⟩;have C:cJ x.es (bu bc eQ x.ps[i].name x.ps)<=cJ x.es x.ps:=QR (h.Dc.del _) h.Dc g;have A:=h.sum;show((cJ x.es (bu bc eQ x.ps[i].name x.ps):Nat):Int)<=x.M;omega
def Jw(h:gD x)(s:ByteArray){L:List aO}{I:Mem}(hO:Ow (bA r x::L) I){K:Kq}
  (h1:∀q,aL bc eQ s x.ps=some q->∀x' A,gD x'->x'.B=x.B->x'.M=x.M->x'.es=x.es->x'.ps=bu bc eQ s x.ps->Ow (bA r x'::L) A->K (pB true) A)
  (h0:aL bc eQ s x.ps=none->K (pB false) I):
  aa prog 55 [pP r 0,pS s] I K:=by
 have BV:=h.EG;refine nA.c ?_;refine TX s (by omega) hO (λbT=>⟨_,_,rfl,ab.f rfl (h0 ((bD bX).2 bT))⟩) λi O he=>⟨_,_,rfl,ab.t rfl ?_⟩;subst he;have SO:=Tp h.Dc O;have Kf:=h.del O;have gF:=h.tk;have C:=h.mo;obtain⟨f,Q⟩:=bA.open_ hO;have e0:toNat (0:Int)=0:=rfl;have ei:toNat ((i:Nat):Int)=i:=rfl;have Y:wrap .i64 (((i:Nat):Int)+1)=((i+1:Nat):Int):=by rw[aD (by omega) (by omega)];rfl
 have U:toNat ((i+1:Nat):Int)=i+1:=rfl;rw[Y];have BQ:x.tk.length=x.ps.length:=by rw[gF,length_map]
 have yg:x.mo.length=x.ps.length:=by rw[C,length_map]
 have cut:∀{T:Type} (l:List T) (g:T->List PV),([]++drop (toNat (0:Int)) (take (toNat ((i:Nat):Int)) (l.map g)))=(l.take i).map g:=λl g=>by
  rw[e0,ei,drop_zero,<- map_take,nil_append]
 have j:∀{T:Type} (l:List T) (g:T->List PV),drop (toNat (0:Int)) (take (toNat ((i:Nat):Int)) (l.map g))=(l.take i).map g:=λl g=>by
  rw[e0,ei,drop_zero,<- map_take]
 have e:∀{T:Type} (l:List T) (g:T->List PV),drop (toNat ((i+1:Nat):Int)) (take (toNat (((l.map g).length:Nat):Int)) (l.map g))=(l.drop (i+1)).map g:=λl g=>by
  rw[U,toNat_natCast,take_length,<- map_drop]
 refine⟨_,_,Q.rd 0 rfl (by simp),by omega,by omega,by simp;omega,_,_,Q.rd 0 rfl (by simp),by omega,by simp;omega,by omega,?_⟩;rw[cut x.ps Prod.pv,j x.ps Prod.pv,e x.ps Prod.pv];refine Ow.JE Q (by simp;omega) (by simp;omega) λf1 u1 h2=>h2.app (by simp) (by simp;omega) (by simp;omega) λf2 u2 h3=>?_;dsimp only[nP,nn,aM];refine h3.st 1 rfl (by simp) λu3 H=>?_;rw[<- map_append,SO]at H;refine⟨_,_,H.rd 1 rfl (by simp[du]),by omega,by omega,by simp[BQ];omega,_,_,H.rd 1 rfl (by simp[du]),by omega,by simp[BQ];omega,by omega,?_⟩;rw[cut x.tk mL,j x.tk mL,e x.tk mL];have vd:(x.tk.take i).map mL++(x.tk.drop (i+1)).map mL=((bu bc eQ x.ps[i].name x.ps).map (jV x.es)).map mL:=by
  rw[<- SO,gF,<- map_take,<- map_drop,<- map_append,<- map_append]
 have J:(x.mo.take i).map kD++(x.mo.drop (i+1)).map kD=((bu bc eQ x.ps[i].name x.ps).map (mU x.es)).map kD:=by
  rw[<- SO,C,<- map_take,<- map_drop,<- map_append,<- map_append]
 refine Ow.JE H.drop (by simp;omega) (by simp;omega) λf3 u4 h5=>h5.app (by simp) (by simp;omega) (by simp;omega) λf4 u5 h6=>?_;refine h6.st 1 rfl (by simp[du]) λu6 G=>?_;rw[vd]at G;refine⟨_,_,G.rd 1 rfl (by simp[du]),by omega,by omega,by simp[yg];omega,_,_,G.rd 1 rfl (by simp[du]),by omega,by simp[yg];omega,by omega,?_⟩;rw[cut x.mo kD,j x.mo kD,e x.mo kD];refine Ow.JE G.drop (by simp;omega) (by simp;omega) λf5 u7 h8=>h8.app (by simp) (by simp;omega) (by simp;omega) λf6 u8 h9=>?_;refine h9.st 1 rfl (by simp[du]) λu9 rR=>?_;rw[J]at rR;exact h1 _ (Av h.Dc O) _ _ Kf rfl rfl rfl rfl (bA.shut (x:=⟨x.B,x.M,bu bc eQ x.ps[i].name x.ps,x.es,(bu bc eQ x.ps[i].name x.ps).map (jV x.es),(bu bc eQ x.ps[i].name x.ps).map (mU x.es)⟩) (f:=(f2,f.2.1,f4,f6)) rR.drop)
def afz(h:gD x){L:List aO}{H:Mem}(hO:Ow (bA r x::L) H){K:Kq}(J:∀f A,Ow (bA r x::L) A->K (.list 2 f ((x.ps.flatMap (qN x.es)).map Mt.pv)) A):aa prog 58 [pP r 0] H K:=by
 have BV:=h.EG;have Q:=λp hp=>h.XL (p:=p) hp;have I:=h.aaT;obtain⟨B,M,ps,es,tk,mo⟩:=x;have gF:tk=ps.map (jV es):=h.tk;subst gF;dsimp only at BV Q I J |-;obtain⟨f,rQ⟩:=bA.open_ hO;refine qg.c ?_;refine ak.cX (n:=ps.length) (by omega) (λi s u=>s.2=((ps.take i).flatMap (qN es)).map Mt.pv/\Ow (eX s.1 ((ps.take i).flatMap (qN es)).length 2::Pt r 53 (oo.pv ⟨B,M,ps,es,ps.map (jV es),mo⟩ f)::L) u) ⟨rfl,rQ.nil (.inl rfl)⟩ ?_ ?_
 .rintro i ⟨O,_⟩ u next e ⟨rfl,j⟩ au
  have UL:=I i;have zM:=Q _ (getElem_mem e);refine⟨_,_,j.rd 1 rfl (by simp),ab.t (by simpa using e) ?_⟩;refine ak.cX (n:=(jV es ps[i]).length) (by omega) (λk s u=>s.2=((ps.take i).flatMap (qN es)++(qN es ps[i]).take k).map Mt.pv/\Ow (eX s.1 (((ps.take i).flatMap (qN es)).length+k) 2::Pt r 53 (oo.pv ⟨B,M,ps,es,ps.map (jV es),mo⟩ f)::L) u) ⟨by simp,j⟩ ?_ ?_
  .rintro k ⟨f2,_⟩ Y It G ⟨rfl,g⟩ U;have C:k<(qN es ps[i]).length:=by rw[vK];exact G
   refine⟨_,_,g.rd 1 rfl (by simp),by omega,_,Ma e,_,_,rfl,ab.t (by simpa using G) ⟨_,_,g.rd 1 rfl (by simp),by omega,_,aA e,_,rfl,_,_,g.rd 1 rfl (by simp),by omega,_,Ma e,_,_,rfl,by omega,_,aA G,_,_,rfl,?_⟩⟩;have ek:Mt.pv (qN es ps[i])[k]=[pS ps[i].name,.list 1 .sh ((jV es ps[i])[k].tags.map fO)]:=by simp[qN]
   refine g.app (by rw[length_map,length_append,length_take,Nat.min_eq_left (by omega)]) (by show(_+k+1)*40<=_;omega) (by show _+k+1<_;omega) λf3 u3 h3=>U _ _ ⟨?_,h3⟩;rw[iu C,<- append_assoc,map_append (l₂:=[(qN es ps[i])[k]]),List.map_singleton,ek]
  .rintro⟨f2,_⟩ Y It ⟨rfl,g⟩;refine⟨_,_,g.rd 1 rfl (by simp),by omega,_,Ma e,_,_,rfl,ab.f (by simp) (au _ _ ⟨?_,?_⟩)⟩
   .rw[<- vK,take_length,Cc e]
   .rw[Cc e,length_append,vK];exact g
 .rintro⟨O,_⟩ u next ⟨rfl,j⟩
  rw[take_length]at j |-;exact⟨_,_,j.rd 1 rfl (by simp),ab.f (by simp) (J O u (bA.shut (f:=f) j.drop))⟩
def aba(h:gD x){L:List aO}{e:Mem}(C:Ow (bA r x::L) e){K:Kq}(A:K (pI ((dC x.mo:Nat):Int)) e):aa prog 24 [pP r 0] e K:=by
 have I:=h.EG;have H:x.mo.length=x.ps.length:=by rw[h.mo,length_map]
 obtain⟨f,g⟩:=bA.open_ C;refine pw.c ?_;refine ak.cX (n:=x.mo.length) (by omega) (λi s u=>s=((dC (x.mo.take i):Nat):Int)/\u=e) ⟨rfl,rfl⟩ ?_ ?_
 .rintro i _ u next j ⟨rfl,rfl⟩ G
  refine⟨_,_,g.rd 0 rfl (by simp),ab.t (by simpa using j) ⟨_,_,g.rd 0 rfl (by simp),by omega,_,aA j,_,rfl,G _ _ ⟨?_,rfl⟩⟩⟩;rw[iu j,eL,qM];show(if((x.mo[i]:Nat):Int)>((dC (x.mo.take i):Nat):Int)then((x.mo[i]:Nat):Int)else((dC (x.mo.take i):Nat):Int))=_;split<;>omega
 .rintro _ u next ⟨rfl,rfl⟩
  rw[take_length];exact⟨_,_,g.rd 0 rfl (by simp),ab.f (by simp) A⟩
end
def Zy(f g:Fl)(l m:List Int)(G:l.length<=1000000000):bQ 46 [.list 1 f (l.map fO),.list 1 g (m.map fO)] (l=m):=by
 refine av.of (wX.c (ab.mk (λh=>bQ.no (pM h)) (λh=>?_)));refine iX (l:=l) (m:=m) (n:=l.length) rfl (ng h) (by omega) (λk i C u next j A=>?_) (λu next e=>ab.f (by simp) (bQ.yes e));exact ab.t (by simpa using i) ⟨by omega,_,aA i,_,rfl,by omega,_,aA C,_,rfl,ab.mk (λh=>bQ.no (A λe=>by rw[e]at h;simp at h)) (λh=>j (by simpa using h) _)⟩
def adt{a b:Mt}(g:a.name=b.name)(e:a.tags=b.tags):a=b:=by cases a;cases b;simp_all
def Rr(f g:Fl)(l m:List Mt)(J:l.length<=1000000000)(G:∀x∈l,x.tags.length<=1000000000):bQ 15 [.list 2 f (l.map Mt.pv),.list 2 g (m.map Mt.pv)] (l=m):=by
 refine av.of (rD.c (ab.mk (λh=>bQ.no (pM h)) (λh=>?_)));refine iX (l:=l) (m:=m) (n:=l.length) rfl (ng h) (by omega) (λk i A u next C j=>?_) (λu next e=>ab.f (by simp) (bQ.yes e));refine ab.t (by simpa using i) ⟨by omega,_,aA i,_,rfl,by omega,_,aA A,_,rfl,ab.mk (λh=>bQ.no (j λe=>?_)) (λh=>⟨by omega,_,aA i,_,_,rfl,by omega,_,aA A,_,_,rfl,?_⟩)⟩
 .rw[e,fH]at h;cases h
 .have H:l[k].name=m[k].name:=bM.1 (nt h);exact(Zy .sh .sh _ _ (G _ (getElem_mem i))).call (λe=>⟨_,rfl,ab.f rfl (C (adt H e) _)⟩) (λI=>⟨_,rfl,ab.t rfl (bQ.no (j λe=>I (by rw[e])))⟩)
def Uv{a b:cI}:(aG a.id b.id&&(aG a.attr.var b.attr.var&&((a.attr.sym.k == b.attr.sym.k)&&(aG a.attr.sym.t b.attr.sym.t&&((a.attr.sym.n == b.attr.sym.n)&&((a.value.op == b.value.op)&&(aG a.value.a.var b.value.a.var&&((a.value.a.sym.k == b.value.a.sym.k)&&(aG a.value.a.sym.t b.value.a.sym.t&&((a.value.a.sym.n == b.value.a.sym.n)&&(aG a.value.b.var b.value.b.var&&((a.value.b.sym.k == b.value.b.sym.k)&&(aG a.value.b.sym.t b.value.b.sym.t&&((a.value.b.sym.n == b.value.b.sym.n)&&((a.qF == b.qF)&&(aG a.other.var b.other.var&&((a.other.sym.k == b.other.sym.k)&&(aG a.other.sym.t b.other.sym.t&&((a.other.sym.n == b.other.sym.n)&&true)))))))))))))))))))=true↔a=b:=by
 obtain⟨a0,⟨a1,a2,a3,a4⟩,⟨a5,⟨a6,a7,a8,a9⟩,⟨U,Q,O,L⟩⟩,J,⟨I,H,G,C⟩⟩:=a;obtain⟨b0,⟨b1,b2,b3,b4⟩,⟨b5,⟨b6,b7,b8,b9⟩,⟨Xs,Y,A,nv⟩⟩,j,⟨i,h,g,e⟩⟩:=b;simp[bM,and_assoc]
def adk(f g:Fl)(l m:List cI)(G:l.length<=1000000000):bQ 103 [.list 19 f (l.map cI.pv),.list 19 g (m.map cI.pv)] (l=m):=by
 refine av.of (wZ.c (ab.mk (λh=>bQ.no (pM h)) (λh=>?_)));refine iX (l:=l) (m:=m) (n:=l.length) rfl (ng h) (by omega) (λk i C u next j A=>?_) (λu next e=>ab.f (by simp) (bQ.yes e));refine ab.t (by simpa using i) ⟨by omega,_,aA i,_,_,_,_,_,_,_,_,_,_,_,_,_,_,_,_,_,_,_,rfl,by omega,_,aA C,_,_,_,_,_,_,_,_,_,_,_,_,_,_,_,_,_,_,_,rfl,ab.mk (λh=>bQ.no (A λe=>?_)) (λh=>j (Uv.1 (nt h)) _)⟩;have:=nb h;rw[Uv.2 e]at this;cases this
def VG{a b:Prod}(h:a.name=b.name)(g:a.conds=b.conds)(e:a.bd=b.bd):a=b:=by cases a;cases b;simp_all
def XP(C A j i:Fl)(p q:Prod)(H:bO p.conds)(G:ah p.conds<=1000000)(ha:p.bd.length<=1000000):bQ 52 [.agg [pS p.name,.list 7 C (p.conds.map ae.pv),.list 19 A (p.bd.map cI.pv)],.agg [pS q.name,.list 7 j (q.conds.map ae.pv),.list 19 i (q.bd.map cI.pv)]] (p=q):=by
 refine av.of (wW.c (ab.mk (λI=>?_) (λh=>bQ.no λe=>?_)))
 .refine(Zz _ C j p.conds q.conds (le_refl _) G H).call (λL=>⟨_,rfl,ab.t rfl ?_⟩) (λg=>⟨_,rfl,ab.f rfl (bQ.no λe=>g (by rw[e]))⟩);exact(adk A i p.bd q.bd (by omega)).call (λJ=>⟨_,rfl,bQ.yes (VG (bM.1 I) L J)⟩) (λg=>⟨_,rfl,bQ.no λe=>g (by rw[e])⟩)
 .rw[e,fH]at h;cases h
def Zx(f g:Fl)(l m:List Prod)(L:l.length<=1000000)(hp:∀p∈l,bO p.conds/\ah p.conds<=1000000/\p.bd.length<=1000000):bQ 20 [.list 3 f (l.map Prod.pv),.list 3 g (m.map Prod.pv)] (l=m):=by
 refine av.of (uV.c (ab.mk (λh=>bQ.no (pM h)) (λh=>?_)));refine iX (l:=l) (m:=m) (n:=l.length) rfl (ng h) (by omega) (λk i I u next j H=>?_) (λu next e=>ab.f (by simp) (bQ.yes e));obtain⟨G,C,A⟩:=hp _ (getElem_mem i);refine ab.t (by simpa using i) ⟨by omega,_,aA i,_,_,_,_,_,rfl,by omega,_,aA I,_,_,_,_,_,rfl,?_⟩;exact(XP .sh .sh .sh .sh l[k] m[k] G C A).call (λe=>⟨_,rfl,ab.f rfl (j e _)⟩) (λJ=>⟨_,rfl,ab.t rfl (bQ.no (H J))⟩)
def XX(p:Prod):Prop:=bO p.conds/\ah p.conds<=50/\p.bd.length<=50
def LW(f:Fl)(l:List cI)(h:l.length<=1000000):Pure prog 40 [.list 19 f (l.map cI.pv)] (.list 19 .sh (l.map cI.pv)):=by
 refine av.of (mJ.c ?_);exact aR.Qt (by trivial) (by simp;omega) (by simp;omega) λi e g=>rfl
def LS(g e:Fl)(p:Prod)(h:XX p):Pure prog 9 [.agg [pS p.name,.list 7 g (p.conds.map ae.pv),.list 19 e (p.bd.map cI.pv)]] (.agg [pS p.name,.list 7 .sh (p.conds.map ae.pv),.list 19 .sh (p.bd.map cI.pv)]):=by
 obtain⟨i,A,j⟩:=h;refine av.of (ql.c ?_);refine(LU _ g p.conds (le_refl _) (by omega) i).q ⟨_,_,rfl,?_⟩;refine(LW e p.bd (by omega)).q ⟨_,_,rfl,?_⟩;rfl
def abb{fn:Fn}{a b:List PV}{A:aO}{l:List Prod}(C:GZ prog (.fn fn a b) (l.map λp=>[.agg p.pv]) A)(hl:l.length<=1000000){L:List aO}{i:Mem}(I:Ow (A::L) i){K:Kq}(G:∀f e,Ow (A::L) e->K (.list 3 f (l.map Prod.pv)) e):
  aa prog 21 [.fn fn a b] i K:=by
 refine my.c λj Hw=>?_;have O1:=kB.new (I.new 49 [.list 3 .nil []] Hw);refine bk.adm C (Ow.swap O1) (λk u=>Ow (kB j 49 3 ((l.take k).map Prod.pv)::L) u) (λ_ _=>False) (λk=>eW.own _) (λ_ _ _ _ h=>h.elim) (λe O=>O) ?_ ?_ (λc u h=>?_)
 .rintro k Q u R g Y _;have U:k<l.length:=by simpa using Q
  rw[getElem_map];refine⟨_,_,_,_,_,rfl,?_⟩;refine kB.go 0 g rfl (by simp;omega) (by simp;omega) λu4 J=>Y _ ?_;rw[eZ U];exact J
 .intro u h;rw[length_map]at h;have g:Ow (A::kB j 49 3 ((l.take l.length).map Prod.pv)::L) u:=h.tail λ_ h=>h.VM;rw[take_length]at g;obtain⟨f,H⟩:=kB.rd 1 g rfl;dsimp only[PK];exact⟨_,_,H,G f u (g.tail λ_ h=>h.drop)⟩
 .obtain⟨_,_,_,_,_,_,_,_,_,h,_⟩:=h;exact h.elim
def TR{fn:Fn}{a b:List PV}{A:aO}{l:List Mt}(C:GZ prog (.fn fn a b) (l.map λm=>[.agg m.pv]) A)(hl:l.length<=1000000){L:List aO}{i:Mem}(I:Ow (A::L) i){K:Kq}(G:∀f e,Ow (A::L) e->K (.list 2 f (l.map Mt.pv)) e):
  aa prog 13 [.fn fn a b] i K:=by
 refine lu.c λj Hw=>?_;have O1:=kB.new (I.new 54 [.list 2 .nil []] Hw);refine bk.adm C (Ow.swap O1) (λk u=>Ow (kB j 54 2 ((l.take k).map Mt.pv)::L) u) (λ_ _=>False) (λk=>eW.own _) (λ_ _ _ _ h=>h.elim) (λe O=>O) ?_ ?_ (λc u h=>?_)
 .rintro k Q u R g Y _;have U:k<l.length:=by simpa using Q
  rw[getElem_map];refine⟨_,_,_,rfl,?_⟩;refine kB.go 0 g rfl (by simp;omega) (by simp;omega) λu4 J=>Y _ ?_;rw[eZ U];exact J
 .intro u h;rw[length_map]at h;have g:Ow (A::kB j 54 2 ((l.take l.length).map Mt.pv)::L) u:=h.tail λ_ h=>h.VM;rw[take_length]at g;obtain⟨f,H⟩:=kB.rd 1 g rfl;dsimp only[PK];exact⟨_,_,H,G f u (g.tail λ_ h=>h.drop)⟩
 .obtain⟨_,_,_,_,_,_,_,_,_,h,_⟩:=h;exact h.elim
def MW(B:Int)(es:List aj)(l:List ae):Bool:=(range l.length).any λi=>(range (aQ (l[i]?.getD HA))).any λj=>decide (B<((dI es (l[i]?.getD HA) (aE es (l.take i)) j:Nat):Int))
def Eg{B:Int}(G:0<=B){es:List aj}{l:List ae}:MW B es l=true↔dG B es l:=by
 unfold MW dG;rw[any_eq_true];constructor
 .rintro⟨i,e,h⟩;have g:=mem_range.1 e;obtain⟨j,A,C⟩:=any_eq_true.1 h;rw[getElem?_eq_getElem g]at C;exact⟨i,g,j,by simpa using C⟩
 .rintro⟨i,e,j,h⟩;refine⟨i,mem_range.2 e,any_eq_true.2 ⟨j,?_,?_⟩⟩
  .rw[getElem?_eq_getElem e];refine mem_range.2 ?_;by_cases A:j<aQ l[i]
   .exact A
   .rw[Tt es l[i] _ (by omega)]at h;omega
  .rw[getElem?_eq_getElem e];simpa using h
def PD(t:ByteArray):Pure prog 29 [pS t] (.agg [pI 3,pS t,pI 0]):=av.of (zY.c rfl)
def aa_(k:Int):Pure prog 31 [pI k] (.agg [pI 2,pS ⟨#[]⟩,pI k]):=av.of (zZ.c rfl)
def ajB(t:ByteArray)(k:Int):Pure prog 30 [pS t,pI k] (.agg [pI 1,pS t,pI k]):=av.of (z_.c rfl)
def wS(t:ByteArray):Sym:=⟨3,t,0⟩
def nS(k:Int):Sym:=⟨2,⟨#[]⟩,k⟩
def iS(t:ByteArray)(k:Int):Sym:=⟨1,t,k⟩
def ub(v:ByteArray)(s:Sym):List Test:=[⟨1,v,s,[]⟩]
def DL:Prod:=⟨⟨#[97]⟩,[.mk 1 true ⟨#[115]⟩ (ub ⟨#[]⟩ (wS ⟨#[120]⟩)) (ub ⟨#[118]⟩ ⟨0,⟨#[]⟩,0⟩) false [],.mk 2 false ⟨#[115]⟩ (ub ⟨#[]⟩ (wS ⟨#[121]⟩)) (ub ⟨#[118]⟩ ⟨0,⟨#[]⟩,0⟩) false []],[⟨⟨#[115]⟩,⟨⟨#[]⟩,wS ⟨#[122]⟩⟩,⟨0,⟨⟨#[118]⟩,⟨0,⟨#[]⟩,0⟩⟩,⟨⟨#[]⟩,⟨0,⟨#[]⟩,0⟩⟩⟩,1,⟨⟨#[]⟩,⟨0,⟨#[]⟩,0⟩⟩⟩]⟩
def DM:List aj:=[⟨iS ⟨#[83]⟩ 1,wS ⟨#[120]⟩,nS 1,false,true,1⟩,⟨iS ⟨#[83]⟩ 1,wS ⟨#[120]⟩,nS 2,false,true,2⟩,⟨iS ⟨#[83]⟩ 1,wS ⟨#[121]⟩,nS 2,false,true,3⟩]
def cb:(b_ DL).2.1=0:=by kernel_rfl
def zG:MW 10 [] DL.conds=false:=by kernel_rfl
def wk3:MW 10 DM DL.conds=false:=by kernel_rfl
def wk4:cJ [] []+(aE [] DL.conds).length=0:=by kernel_rfl
def wk5:cJ DM [DL]=1:=by kernel_rfl
def wk6:allM DM [DL]=[⟨⟨#[97]⟩,[1]⟩]:=by kernel_rfl
def wkL:bO DL.conds:=by
 refine⟨⟨by decide,by decide,by decide,?_,?_,trivial⟩,⟨by decide,by decide,by decide,?_,?_,trivial⟩,trivial⟩<;>intro t e<;>simp[ub]at e<;>subst e<;>exact⟨by decide,by decide,by decide⟩
def wk7:vY DM:=by
 intro e g;simp only[DM,mem_cons,List.not_mem_nil,or_false]at g;rcases g with rfl|rfl|rfl<;>exact⟨by kernel_rfl,by decide⟩
def wk8:ch aw aF DM:=by
 refine Pairwise.cons ?_ (Pairwise.cons ?_ (Pairwise.cons ?_ Pairwise.nil))<;>intro e g<;>simp only[mem_cons,List.not_mem_nil,or_false]at g
 .rcases g with rfl|rfl<;>decide
 .subst g;decide
def wk9:(DM.map aF).Nodup:=jF wk8
def acN{B M:Int}(A:B=10)(j:M=10){e:Int}{i:List Prod}(h:vb B M [] [] DL e i):e=0/\i=[DL]:=by
 subst A j;cases h with
 |form h=>exact absurd cb h
 |there _ G=>cases G
 |dW _ _ C=>
  have:=(Eg (by omega)).2 C;rw[zG]at this;cases this
 |eb _ _ _ g=>rw[wk4]at g;simp at g
 |ok=>exact⟨rfl,rfl⟩
def acM{B M:Int}(J:B=10)(I:M=10){e:Int}{g:List aj}(h:nC B M [] [DL] DM [] e g):e=0/\g=DM:=by
 subst J I;have H:e_ [] []:=⟨List.nodup_nil,by simp⟩;have ha:eT [] DM []:=⟨wk9,by simp⟩;have j:wG [] DM [] DM:=⟨wk8,by simp⟩;cases h with
 |form h=>exact absurd wk7 h
 |none _ h=>exact absurd H h
 |there _ _ h=>exact absurd ha h
 |dW _ _ _ g i L=>
  have:=i.uniq j;subst this;obtain⟨q,A,G⟩:=L;simp only[mem_singleton]at A;subst A;have:=(Eg (by omega)).2 G;rw[wk3]at this;cases this
 |eb _ _ _ g i _ C=>
  have:=i.uniq j;subst this;rw[wk5]at C;simp at C
 |ok _ _ _ g i=>exact⟨rfl,i.uniq j⟩
section
variable {r:Nat} {y:oo}
def gD.chg(h:gD y){l:List aj}(i:l.length<=100000)(g:Em l)(A:¬ ∃p∈y.ps,dG y.B l p.conds)(j:((cJ l y.ps:Nat):Int)<=y.M):gD ⟨y.B,y.M,y.ps,l,y.ps.map (jV l),y.ps.map (mU l)⟩:=
 ⟨h.b,h.m,h.Dc,h.Ee,h.EG,i,g,rfl,rfl,λp hp e=>A ⟨p,hp,e⟩,j⟩
def EI(es:List aj)(d:List Int):(dy es d).length<=es.length:=List.length_filter_le _ _
def PM(h:gD y)(f1 f2:Fl)(add:List aj)(drop:List Int)(hal:add.length<=1000)(hdl:drop.length<=1000)(Np:y.es.length+add.length<=100000){L:List aO}{μ:Mem}(hO:Ow (bA r y::L) μ){K:Kq}
  (hk:∀e l y' μ',nC y.B y.M y.es y.ps add drop e l->gD y'->y'.B=y.B->y'.M=y.M->y'.ps=y.ps->l.Perm y'.es->Ow (bA r y'::L) μ'->K (pI e) μ'):
  aa prog 42 [pP r 0,.list 12 f1 (add.map aj.pv),.list 1 f2 (drop.map fO)] μ K:=by
 have same:∀{e:Int} {u:Mem},nC y.B y.M y.es y.ps add drop e y.es->Ow (bA r y::L) u->K (pI e) u:=λhc hu=>hk _ _ y _ hc h rfl rfl rfl (List.Perm.refl _) hu;refine rC.c ?_;refine ak.each (n:=add.length) (by omega) (λk u=>(∀e∈add.take k,ti e=true/\1<=e.tag)/\u=μ) ⟨by simp,rfl⟩ ?_ ?_
 .rintro k u next bZ ⟨hg,rfl⟩ au
  refine ab.t (by simpa using bZ) ⟨by omega,_,aA bZ,_,_,_,_,_,_,_,_,_,_,_,_,rfl,(LL add[k]).call ⟨_,rfl,ab.mk (λhv=>?_) (λhv=>⟨by omega,_,aA bZ,_,rfl,ab.mk (λht=>?_) (λht=>au _ ⟨λe j=>?_,rfl⟩)⟩)⟩⟩
  .refine same (.form λC=>?_) hO;rw[(C _ (getElem_mem bZ)).1]at hv;cases hv
  .refine same (.form λC=>?_) hO;have h1:=(C _ (getElem_mem bZ)).2;have:add[k].tag<1:=by simpa using ht
   omega
  .rcases(dX bZ).1 j with j|rfl
   .exact hg e j
   .exact⟨nt hv,by have:¬add[k].tag<1:=by simpa using ht
                   omega⟩
 rintro u next ⟨C,rfl⟩
 rw[take_length]at C;have C:vY add:=C;obtain⟨f,rQ⟩:=bA.open_ hO;refine ab.f (by simp) ⟨_,_,rQ.rd 0 rfl (by simp),?_⟩;refine ak.cX (n:=drop.length) (by omega) (λi s u=>s.2=(dy y.es (drop.take i)).map aj.pv/\e_ y.es (drop.take i)/\Ow (Pt r 53 (y.pv f)::L) u) ⟨?_,⟨by simp,by simp⟩,rQ⟩ ?_ ?_
 .have:dy y.es (drop.take 0)=y.es:=filter_eq_self.2 λe _=>by simp
  rw[this]
 .rintro i ⟨g,_⟩ u1 jr A ⟨rfl,Q,h1⟩ iT;dsimp only at h1 |-;have hlen:=EI y.es (drop.take i);refine ab.t (by simpa using A) ?_;refine ak.cX (n:=(dy y.es (drop.take i)).length) (by omega) (λk s u=>∃q:List aj,s.2=q.map aj.pv/\q=((dy y.es (drop.take i)).take k).filter (λe=> !(e.tag == drop[i]))/\Ow (eX s.1 q.length 12::Pt r 53 (y.pv f)::L) u) ⟨[],rfl,by simp,h1.nil (.inl rfl)⟩ ?_ ?_
  .rintro k ⟨g2,_⟩ u2 It dY ⟨q,rfl,hq,O⟩ yf;have hql:q.length<=k:=by rw[hq];exact le_trans (List.length_filter_le _ _) (by rw[length_take];omega)
   refine ab.t (by simpa using dY) ⟨by omega,_,aA dY,_,rfl,by omega,_,aA A,_,rfl,ab.mk (λI=>?_) (λj=>?_)⟩
   .have I:((dy y.es (drop.take i))[k].tag == drop[i])=false:=by simpa using I
    refine⟨by omega,_,aA dY,_,_,_,_,_,_,_,_,_,_,_,_,rfl,?_⟩;refine O.app (by simp) (by simp;omega) (by simp;omega) λg3 u3 J=>yf _ _ ⟨q++[(dy y.es (drop.take i))[k]],by rw[map_append];rfl,?_,by rw[length_append];exact J⟩;rw[iu dY,filter_append,<- hq];simp[I]
   .have j:((dy y.es (drop.take i))[k].tag == drop[i])=true:=by simpa using j
    refine yf _ _ ⟨q,rfl,?_,O⟩;rw[iu dY,filter_append,<- hq];simp[j]
  .rintro⟨g2,_⟩ u2 It ⟨q,rfl,hq,O⟩;rw[take_length,uf A]at hq;subst hq;refine ab.f (by simp) (ab.mk (λj=>?_) (λI=>?_))
   .have j:(dy y.es (drop.take (i+1))).length=(dy y.es (drop.take i)).length:=by simp only[length_map,beq_iff_eq]at j;omega
    exact same (.none C (LG A j)) (bA.shut (f:=f) O.drop)
   .have I:(dy y.es (drop.take (i+1))).length≠(dy y.es (drop.take i)).length:=by simp only[length_map,beq_eq_false_iff_ne,ne_eq]at I;omega
    exact iT _ _ ⟨rfl,GB A Q I,O.drop⟩
 rintro⟨g,_⟩ u1 jr ⟨rfl,Q,h1⟩;rw[take_length]at Q;dsimp only at h1 |-;rw[take_length];have hlen:=EI y.es drop;refine ab.f (by simp) (gE.c ?_);refine Ow.JE h1 (by simp;omega) (by simp;omega) λg1 u2 O=>⟨_,_,rfl,?_⟩;rw[length_map]at O;rw[nil_append];refine ak.cX (n:=add.length) (by omega) (λi s u=>s.2=(dy y.es drop++add.take i).map aj.pv/\eT y.es (add.take i) drop/\Ow (eX s.1 ((dy y.es drop).length+i) 12::Pt r 53 (y.pv f)::L) u) ⟨by simp,⟨by simp,by simp⟩,O⟩ ?_ ?_
 .rintro i ⟨g2,_⟩ u3 RO A ⟨rfl,ha,J⟩ Gj;dsimp only at J |-;refine ab.t (by simpa using A) ?_;refine ak.each (n:=(dy y.es drop++add.take i).length) (by simp;omega) (λk u=>(∀e∈(dy y.es drop++add.take i).take k,e.tag≠add[i].tag)/\u=u3) ⟨by simp,rfl⟩ ?_ ?_
  .rintro k u4 ads H ⟨cM,rfl⟩ aam;refine ab.t (decide_eq_true (by rw[length_map];exact Int.ofNat_lt.2 H)) ⟨by omega,_,aA H,_,rfl,by omega,_,aA A,_,rfl,ab.mk (λj=>?_) (λI=>aam _ ⟨λe j=>?_,rfl⟩)⟩
   .have j:(dy y.es drop++add.take i)[k].tag=add[i].tag:=by simpa using j
    exact same (.there C Q (PY A ⟨_,getElem_mem H,j⟩)) (bA.shut (f:=f) J.drop)
   .rcases(dX H).1 j with j|rfl
    .exact cM e j
    .simpa using I
  .rintro u4 ads ⟨cM,rfl⟩;rw[take_length]at cM;refine ab.f (by simp) ⟨by omega,_,aA A,_,_,_,_,_,_,_,_,_,_,_,_,rfl,?_⟩;refine J.app (by simp;omega) (by simp;omega) (by simp;omega) λg3 u5 h5=>Gj _ _ ⟨?_,JI A ha cM,h5⟩;rw[iu A,<- append_assoc,map_append (l₂:=[add[i]])];rfl
 rintro⟨g2,_⟩ u3 RO ⟨rfl,ha,J⟩;rw[take_length]at ha;dsimp only at J |-;rw[take_length];have iH:=aa2 h.ne ha;obtain⟨l',zM,xv⟩:=acV iH;have U:=W_ zM xv;have UK:(dy y.es drop++add).length<=100000:=by rw[length_append];omega
 refine ab.f (by simp) ?_;dsimp only[nP,nn,aM];refine J.drop.st 0 rfl (by simp) λu4 h4=>?_;have h5:Ow (bA r ⟨y.B,y.M,y.ps,dy y.es drop++add,y.tk,y.mo⟩::L) u4:=bA.shut (x:=⟨y.B,y.M,y.ps,dy y.es drop++add,y.tk,y.mo⟩) (f:=(f.1,g2,f.2.2.1,f.2.2.2)) h4;have Dq:(∃p∈y.ps,dG y.B (dy y.es drop++add) p.conds)↔∃p∈y.ps,dG y.B l' p.conds:=by
  constructor
  .rintro⟨p,hp,G⟩;exact⟨p,hp,(tC xv).2 G⟩
  .rintro⟨p,hp,G⟩;exact⟨p,hp,(tC xv).1 G⟩
 have ki:=HM xv y.ps;have back:∀{u:Mem} {e:Int},Ow (bA r ⟨y.B,y.M,y.ps,dy y.es drop++add,y.tk,y.mo⟩::L) u->e≠0->nC y.B y.M y.es y.ps add drop e y.es->ab ((e:Int) != 0) (nP (some ⟨r,0,none⟩) λUm RJ=>stM Um (RJ+3) [.list 12 f.2.1 (y.es.map aj.pv)] u λOa=>K (pI e) Oa) (K (pI e) u):=λhu j hc=>by
  obtain⟨f',Y⟩:=bA.open_ hu;refine ab.t (by simpa using j) ?_;dsimp only[nP,nn,aM];refine Y.st 0 rfl (by simp) λu5 h7=>same hc (bA.shut (f:=(f'.1,f.2.1,f'.2.2.1,f'.2.2.2)) h7)
 refine Uc (x:=⟨y.B,y.M,y.ps,dy y.es drop++add,y.tk,y.mo⟩) h.b h.Ee h.EG UK iH h5 (λG u5 Y=>⟨_,rfl,back Y (by omega) (.dW C Q ha l' U (Dq.1 G))⟩) (λG hs u5 Y=>⟨_,rfl,back Y (by omega) (.eb C Q ha l' U (λhc=>G (Dq.2 hc)) (by rw[ki];exact hs))⟩) (λG hs u5 Y=>⟨_,rfl,ab.f rfl (hk 0 l' _ _ (.ok C Q ha l' U (λhc=>G (Dq.2 hc)) (by rw[ki];exact hs)) (h.chg UK iH G hs) rfl rfl rfl xv Y)⟩)
end
theorem nC.aaX{B M:Int}{es:List aj}{ps:List Prod}{add:List aj}{drop:List Int}{e:Int}{oC:List aj}(h:nC B M es ps add drop e oC):∀x∈oC,x∈add\/x∈es:=by
 intro x hx;cases h with
 |ok _ _ _ _ h4=>rcases(h4.2 x).1 hx with h|⟨h,_⟩
                 .exact .inl h
                 .exact .inr h
 |_=>exact .inr hx
def Iq{g:Type}[DecidableEq g]:∀{l m:List g},l.Nodup->(∀x∈l,x∈m)->l.length<=m.length
 |[],_,_,_=>Nat.zero_le _
 |a::l,m,h,j=>by
  obtain⟨G,C⟩:=List.nodup_cons.1 h
  have ha:=j a (by simp);have A:=Iq (m:=m.erase a) C λx i=>(List.mem_erase_of_ne (λe:x=a=>G (by rw[<- e];exact i))).2 (j x (by simp[i]));rw[List.length_erase_of_mem ha]at A;have:=List.length_pos_of_mem ha;simp only[length_cons];omega
theorem nC.len{B M:Int}{es:List aj}{ps:List Prod}{add:List aj}{drop:List Int}{e:Int}{oC:List aj}(hu:ch aw aF es)(h:nC B M es ps add drop e oC):oC.length<=es.length+add.length:=by
 have h1:=HE (h.up hu);have h2:oC.length<=(es++add).length:=by
  classical
  refine Iq h1 λx hx=>?_;rcases h.aaX x hx with h|h
  .simp[h]
  .simp[h]
 rwa [length_append]at h2
section
variable {n r:Nat} {x:NC} {es:List aj} {ps:List Prod} {y:oo}
def Ui(j:Ad x es ps y){L:List aO}{u:Mem}(h:Ow (fi n x es ps 20::bA r y::L) u){F:Kq}
  (C:∀(v:Int) u',Ow (fi n x es ps 20::bA r y::L) u'->(∀{g:Kq},(∀i,Ow (fi n x es ps 20::bA r y::L) i->g (pI v) i)->aa prog 24 [pP r 0] u' g)->F (pI v) u'):
  aa prog 23 [pP n 0] u F:=
 aa7 (by omega) h λA e=>C _ A e λ{g} G=>aba j.ok (Ow.swap e) (by rw[j.eb];exact G _ e)
end
def fi.facts{n:Nat}{x:NC}{es:List aj}{ps:List Prod}{w:Nat}{L:List aO}{g:Mem}(h:Ow (fi n x es ps w::L) g):((cJ es ps:Nat):Int)<=x.M/\x.M<=1024/\ch aw aF es/\ch bc eQ ps/\(∀q∈ps,si q)/\ps.length<=w:=by
 obtain⟨_,_,_,_,_,_,_,⟨e,i⟩,_⟩:=fi.open_ h;exact⟨i,e.mb.2,e.core.use.inv.xD,e.Dc,e.Ee,e.Kb⟩
def RV{es:List aj}(e:Em es)(p:Prod):(qO es p).length=(aE es p.conds).length:=by unfold qO;rw[length_map,xJ (nL e _)]
def JH{es:List aj}(e:Em es)(ps:List Prod):(allM es ps).length=cJ es ps:=by
 unfold allM cJ;rw[List.length_flatMap];congr 1;exact map_congr_left λp _=>RV e p
def OV{es:List aj}(h:Em es){p:Prod}(hp:si p):∀m∈qO es p,m.tags.length<=1000:=by
 intro m i;obtain⟨t,e,rfl⟩:=mem_map.1 i;have e:=((jX (nL h p.conds)).2 t).1 e;rw[<- mM]at e;obtain⟨q,g,rfl⟩:=mem_map.1 e;have j:=qx (es:=es) (l:=p.conds) (ts:=[Df]) (m:=0) (by simp[Df]) q g;obtain⟨_,_,_,A,_⟩:=hp.facts;have:=cz p.conds;show q.tags.length<=1000;omega
def PW{es:List aj}(e:Em es){ps:List Prod}(hp:∀q∈ps,si q):∀m∈allM es ps,m.tags.length<=1000000000:=by
 intro m g;obtain⟨p,i,h⟩:=mem_flatMap.1 g;have:=OV e (hp p i) m h;omega
section
variable {n:Nat} {x:NC} {es:List aj} {ps:List Prod} {w:Nat}
def afy(i:w<=1000){L:List aO}{g:Mem}(h:Ow (fi n x es ps w::L) g){F:Kq}(j:∀f e,Ow (fi n x es ps w::L) e->F (.list 2 f ((allM es ps).map Mt.pv)) e):aa prog 13 [Rp n] g F:=by
 obtain⟨G,C,A,_⟩:=fi.facts h;exact TR (l:=allM es ps) (MJ i) (by rw[JH (HF A)];omega) h j
def adj(f g:Fl){L:List aO}{h:Mem}(j:Ow (fi n x es ps w::L) h){l:List Mt}(e:allM es ps=l){F:Kq}(A:F (pB true) h):aa prog 15 [.list 2 f ((allM es ps).map Mt.pv),.list 2 g (l.map Mt.pv)] h F:=by
 obtain⟨J,I,i,_,C,_⟩:=fi.facts j;have H:=JH (HF i) ps;exact(Rr f g _ _ (by omega) (PW (HF i) C)).call (λ_=>A) (λG=>absurd e G)
end
section
variable {n:Nat} {x:NC} {es:List aj} {ps:List Prod} {w:Nat}
@[reducible] def FI(n:Nat):PV:=.fn (.func 60) [] [.bt [pP n 0] 0]
def NG(n:Nat):Pure prog 22 [pP n 0] (FI n):=av.of (yN.c rfl)
theorem Ox(hw:w<=1000):GZ prog (FI n) (ps.map λp=>[.agg p.pv]) (fi n x es ps w):=by
 refine GZ.mk λfy ya yb J S μ hy hO cV=>?_;show aa _ _ [.fn fy ya yb,.bt [pP n 0] 0] _ _;obtain⟨T,ms,ids,tk,ct,fr,mn,⟨hR,mF⟩,h1⟩:=fi.open_ hO;have nH:ps.length<=1000:=le_trans hR.Kb hw;refine uE.c λb2 zN=>⟨_,rfl,?_⟩;have O1:=h1.new 27 [.fn fy ya yb] zN;dsimp only[nP,nn,aM];refine⟨_,aH (an.xt (x:=x) (es:=es) (ms:=ms) (ids:=ids) O1 (by simp)) (by simp),(RP.rm x.pr).call ⟨_,_,_,rfl,?_⟩⟩;have n_:((ps.map (gl T.B)).map λy=>[RP.cY y.1,RP.gN y.2]).length=ps.length:=by simp
 have shut:∀{u:Mem} {M:List aO},Ow (gf n x es ms ids T tk ct fr mn ps M) u->Ow (fi n x es ps w::M) u:=λh=>fi.shut hR mF h;refine bk.own (RP.fI x.pr (ps.map (gl T.B)) (by simp;omega)) (Ow.ord [3] O1)
  (λi u=>Ow (gf n x es ms ids T tk ct fr mn ps [Pt b2 27 [.fn fy ya yb],J i]) u) (λcd u=>cd=.ret/\Ow [fi n x es ps w,S] u) (λi=>eW.own _) (λcd=>eW.and (eW.own _)) (λμ' h'=>?_) ?_ ?_ ?_
 .have h2:Ow (RP.cy x.pr (ps.map (gl T.B))::Pt b2 27 [.fn fy ya yb]::an n x es ms ids::cj T tk ct fr mn::RT.At x.el es::[J 0]) μ':=h';exact Ow.ord [2,2,0,1,0] h2
 .rintro i Hv u R h2 bT iR;have hi:i<ps.length:=by simpa using Hv
  have aJ:=hR.Ee _ (getElem_mem hi);obtain⟨_,_,_,g4,g5,_,_⟩:=aJ.facts;rw[getElem_map,getElem_map];refine⟨_,_,_,_,_,_,_,_,rfl,_,_,_,h2.rd 4 rfl (by simp),?_⟩;refine(adg .sh .sh ps[i] (by omega) aJ.vM (by omega)).q ⟨_,_,_,_,_,rfl,?_⟩;rw[Mem.pK];have fF:∀ν,J i ν->bP prog (.fn fy ya yb) [.agg ps[i].pv] ν λv μ'=>(v=pB true/\Ow [J (i+1)] μ')\/(v=pB false/\Ow [S] μ'):=λν hν=>by
   have h:=cV i (by rw[length_map];exact hi) ν hν;rw[getElem_map]at h;exact h
  refine Ow.Cp (Ow.ord [5] h2) fF λv u5 h5=>?_;rcases h5.tt with⟨rfl,h6⟩|⟨rfl,h6⟩
  .exact⟨_,rfl,ab.f rfl (bT _ (Ow.ord [1,1,1,1,1,0] h6))⟩
  .refine⟨_,rfl,ab.t rfl (iR _ _ ⟨rfl,?_⟩)⟩;have h7:Ow (gf n x es ms ids T tk ct fr mn ps [S]) u5:=(Ow.ord [1,1,1,1,1,0] h6).tail λ_ h=>h.tail λ_ h=>h.tail λ_ h=>h.tail λ_ h=>h.drop;exact shut h7
 .intro u h2;rw[n_]at h2;dsimp only[PK];rw[length_map];exact .inl (shut (h2.tail λ_ h=>h.tail λ_ h=>h.tail λ_ h=>h.tail λ_ h=>h.drop))
 .rintro cd u ⟨rfl,h⟩;exact .inr h
def GJ(i:w<=1000){L:List aO}{g:Mem}(h:Ow (fi n x es ps w::L) g){F:Kq}(j:∀f e,Ow (fi n x es ps w::L) e->F (.list 3 f (ps.map Prod.pv)) e):aa prog 21 [FI n] g F:=by
 obtain⟨_,_,_,_,_,A⟩:=fi.facts h;exact abb (Ox i) (by omega) h j
end
section
variable {n r:Nat} {x:NC} {es:List aj} {ps:List Prod} {w:Nat} {y:oo}
def PQ(I:w<=1000)(j:Ad x es ps y){L:List aO}{u:Mem}(h:Ow (fi n x es ps w::bA r y::L) u){F:Kq}(G:∀u',Ow (fi n x es ps w::bA r y::L) u'->F (pB true) u'):
  aa prog 19 [pP n 0,pP r 0] u F:=by
 refine uR.c ?_;refine⟨(YO n).call ⟨_,_,_,rfl,afy I h λf Y Q=>⟨_,_,rfl,afz j.ok (Ow.swap Q) λg U C=>⟨_,_,rfl,?_,trivial⟩,trivial⟩,trivial⟩,trivial⟩;refine adj _ _ (Ow.swap C) j.all.symm ⟨_,rfl,ab.t rfl ?_⟩;have i:∀a:Nat,a=y.ps.length->(((a:Nat):Int) == (((y.ps.map Prod.pv).length:Nat):Int))=true:=λa e=>by rw[e,length_map];simp
 obtain⟨f1,O⟩:=bA.open_ C;refine⟨⟨_,_,O.rd 0 rfl (by simp),YN (Ow.swap C) λH A=>⟨_,rfl,?_⟩,trivial⟩,YN (Ow.swap C) λH A=>⟨_,rfl,?_⟩,trivial⟩
 .rw[i _ (by rw[j.ps])];exact G _ A
 .obtain⟨f2,J⟩:=bA.open_ (Ow.swap A);refine⟨_,_,J.rd 0 rfl (by simp),?_⟩;rw[i _ (by rw[j.ps])];exact G _ A
end
abbrev oD:TypeId:=37
abbrev dN:TypeId:=102
abbrev dn:TypeId:=84
def AK(l:List Sym):∀r∈l.map Sym.pv,r.length=3:=Bg (pv:=Sym.pv) (λ_=>rfl) l
def Ag(l:List Sym):aV (l.map Sym.pv).flatten=true:=nR (pv:=Sym.pv) (λ_=>rfl) l
def CD(d:Bool)(l:List Sym)(q:PV):aO:=λe=>bif d then ca oD 3 q (l.map Sym.pv) e else q=.list 3 .sh (l.map Sym.pv)
@[reducible] def nN(x:Test×PV):List PV:=[pI x.1.rel,pS x.1.var,pI x.1.sym.k,pS x.1.sym.t,pI x.1.sym.n,x.2]
def oE(d:Bool)(x:Test×PV):aO:=CD d x.1.list x.2
def bw(d:Bool)(l:List Test)(p:PV):aO:=λe=>∃X:List (Test×PV),X.map (·.1)=l/\(∀x∈X,x.2.cell=true)/\Ow (ca dN 6 p (X.map nN)::X.map (oE d)) e
@[reducible] def fR(x:ae×PV×PV×PV):List PV:=[pI x.1.kind,pB x.1.goal,pS x.1.id,x.2.1,x.2.2.1,pB x.1.acc,x.2.2.2]
def cm(d:Bool):Nat->List ae->PV->aO
 |0,l,p=>λe=>l=[]/\ca dn 7 p [] e
 |n+1,l,p=>λe=>∃X:List (ae×PV×PV×PV),X.map (·.1)=l/\(∀x∈X,x.2.1.cell=true/\x.2.2.1.cell=true/\x.2.2.2.cell=true)/\
   Ow (ca dn 7 p (X.map fR)::X.map λx=>Ow [bw d x.1.attr x.2.1,bw d x.1.value x.2.2.1,cm d n x.1.conds x.2.2.2]) e
def jH(d:Bool)(n:Nat)(x:ae×PV×PV×PV):aO:=Ow [bw d x.1.attr x.2.1,bw d x.1.value x.2.2.1,cm d n x.1.conds x.2.2.2]
def Vh(X:List (Test×PV)):∀r∈X.map nN,r.length=6:=λr e=>by obtain⟨x,_,rfl⟩:=mem_map.1 e;rfl
def ND(X:List (ae×PV×PV×PV)):∀r∈X.map fR,r.length=7:=λr e=>by obtain⟨x,_,rfl⟩:=mem_map.1 e;rfl
def CD.view{d:Bool}{l:List Sym}{q:PV}{e g:Mem}(h:CD d l q e)(j:Mem.inc e g):dL g q (.list 3 .sh (l.map Sym.pv)):=by
 cases d with
 |false=>rw[show q=_ from h];exact .same _
 |true=>
  obtain⟨F,i⟩:ca oD 3 q (l.map Sym.pv) e:=h;exact(i.view (AK l) (Ag l)).inc j
def bw.view{d:Bool}{l:List Test}{p:PV}{i j:Mem}(h:bw d l p i)(A:Mem.inc i j):dL j p (.list 6 .sh (l.map Test.pv)):=by
 obtain⟨X,rfl,_,C⟩:=h;obtain⟨H,J,O⟩:=C.mem _ (mem_cons_self ..);rw[map_map];refine ca.deep (f:=nN) (g:=Test.pv∘Prod.fst) (X:=X) J (λb o e=>A b o (O b o e)) (λx _=>rfl) (λx _=>rfl) (λx _=>rfl) λx I=>?_;obtain⟨G,L,Q⟩:=C.mem (oE d x) (mem_cons_of_mem _ (mem_map.2 ⟨x,I,rfl⟩));exact cA.cons (.same _) (cA.cons (.same _) (cA.cons (.same _) (cA.cons (.same _) (cA.cons (.same _) (cA.cons (CD.view L λb o e=>A b o (Q b o e)) (cA.nil _))))))
def cm.view{d:Bool}:∀{n:Nat} {l:List ae} {p:PV} {A e:Mem},cm d n l p A->Mem.inc A e->dL e p (.list 7 .sh (l.map ae.pv))
 |0,l,p,A,e,h,C=>by
  obtain⟨rfl,F,G⟩:=h
  exact(G.view (by simp) rfl).inc C
 |n+1,l,p,A,e,h,C=>by
  obtain⟨X,rfl,_,L⟩:=h;obtain⟨O,G,Lt⟩:=L.mem _ (mem_cons_self ..);rw[map_map];refine ca.deep (f:=fR) (g:=ae.pv∘Prod.fst) (X:=X) G (λb o H=>C b o (Lt b o H)) (λx _=>rfl) (λx _=>by show(ae.pv x.1).length=7;rw[ae.de];rfl) (λx _=>by show aV (ae.pv x.1)=true;rw[ae.de];rfl) λx hx=>?_;obtain⟨i,j,Hv⟩:=L.mem (jH d n x) (mem_cons_of_mem _ (mem_map.2 ⟨x,hx,rfl⟩));have j:Ow [bw d x.1.attr x.2.1,bw d x.1.value x.2.2.1,cm d n x.1.conds x.2.2.2] i:=j;have I:∀{J},Mem.inc J i->Mem.inc J e:=λhk b o H=>C b o (Hv b o (hk b o H));obtain⟨Y,a1,b1⟩:=j.mem _ (mem_cons_self ..);obtain⟨U,a2,b2⟩:=j.mem _ (mem_cons_of_mem _ (mem_cons_self ..));obtain⟨Q,a3,b3⟩:=j.mem _ (mem_cons_of_mem _ (mem_cons_of_mem _ (mem_cons_self ..)));show cA e (fR x) (ae.pv x.1);rw[ae.de];exact cA.cons (.same _) (cA.cons (.same _) (cA.cons (.same _) (cA.cons (bw.view a1 (I b1)) (cA.cons (bw.view a2 (I b2)) (cA.cons (.same _) (cA.cons (cm.view a3 (I b3)) (cA.nil _)))))))
def bw.raw{d:Bool}{l:List Test}{p:PV}{e:Mem}(h:bw d l p e):∃a c,p=.raw (.slice a l.length c):=by
 obtain⟨X,rfl,_,i⟩:=h;obtain⟨j,g,_⟩:=i.mem _ (mem_cons_self ..);obtain⟨a,c,h⟩:=g.raw;exact⟨a,c,by simpa using h⟩
def cm.raw{d:Bool}{n:Nat}{l:List ae}{p:PV}{g:Mem}(h:cm d n l p g):∃a c,p=.raw (.slice a l.length c):=by
 cases n with
 |zero=>
  obtain⟨rfl,e⟩:=h;exact ca.raw e
 |succ n=>
  obtain⟨X,rfl,_,i⟩:=h;obtain⟨j,e,_⟩:=i.mem _ (mem_cons_self ..);obtain⟨a,c,h⟩:=e.raw;exact⟨a,c,by simpa using h⟩
def bw.open_{d:Bool}{l:List Test}{p:PV}{L:List aO}{e:Mem}(h:Ow (bw d l p::L) e):∃X:List (Test×PV),X.map (·.1)=l/\(∀x∈X,x.2.cell=true)/\Ow (ca dN 6 p (X.map nN)::(X.map (oE d)++L)) e:=by
 obtain⟨X,h⟩:=Ow.ex h;obtain⟨i,h⟩:=Ow.and h;obtain⟨g,h⟩:=Ow.and h;exact⟨X,i,g,h.nest⟩
def bw.shut{d:Bool}{p:PV}{X:List (Test×PV)}{L:List aO}{g:Mem}(i:∀x∈X,x.2.cell=true)(h:Ow (ca dN 6 p (X.map nN)::(X.map (oE d)++L)) g):Ow (bw d (X.map (·.1)) p::L) g:=
 (Ow.pack (L1:=ca dN 6 p (X.map nN)::X.map (oE d)) h).imp λ_ e=>⟨X,rfl,i,e⟩
def cm.open_{d:Bool}{n:Nat}{l:List ae}{p:PV}{L:List aO}{e:Mem}(h:Ow (cm d (n+1) l p::L) e):∃X:List (ae×PV×PV×PV),X.map (·.1)=l/\(∀x∈X,x.2.1.cell=true/\x.2.2.1.cell=true/\x.2.2.2.cell=true)/\Ow (ca dn 7 p (X.map fR)::(X.map (jH d n)++L)) e:=by
 obtain⟨X,h⟩:=Ow.ex h;obtain⟨i,h⟩:=Ow.and h;obtain⟨g,h⟩:=Ow.and h;exact⟨X,i,g,h.nest⟩
def cm.shut{d:Bool}{n:Nat}{p:PV}{X:List (ae×PV×PV×PV)}{L:List aO}{g:Mem}(i:∀x∈X,x.2.1.cell=true/\x.2.2.1.cell=true/\x.2.2.2.cell=true)(h:Ow (ca dn 7 p (X.map fR)::(X.map (jH d n)++L)) g):Ow (cm d (n+1) (X.map (·.1)) p::L) g:=
 (Ow.pack (L1:=ca dn 7 p (X.map fR)::X.map (jH d n)) h).imp λ_ e=>⟨X,rfl,i,e⟩
end Go.Proofs.YthaeiehophlooaaGreat
