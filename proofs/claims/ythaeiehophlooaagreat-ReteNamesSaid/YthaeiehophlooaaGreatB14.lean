import Derived.Test.YthaeiehophlooaaGreatB13
import Derived.Test.YthaeiehophlooaaGreatRows
open List (Pairwise.nil all_cons all_nil getElem?_cons_zero getElem_map getElem_mem length_append length_map length_take map_append map_cons map_map mem_cons mem_cons_of_mem mem_cons_self mem_map take_add_one take_length)
set_option linter.all false
namespace Go.Proofs.YthaeiehophlooaaGreat
open Go.Proofs.Tryz Go.aO Go.RowKit K6
section
variable {r:Nat} {y:BO}
theorem pw.chg(h:pw y){l:List aj}(hl:l.length<=100000)(hn:HB l)(h1:¬ ∃p∈y.ps,dz y.B l p.conds)(h2:((cW l y.ps:Nat):Int)<=y.M):pw ⟨y.B,y.M,y.ps,l,y.ps.map (sV l),y.ps.map (qy l)⟩:=
 ⟨h.b,h.m,h.Nn,h.Ji,h.KJ,hl,hn,rfl,rfl,λp hp ho=>h1 ⟨p,hp,ho⟩,h2⟩
theorem Eb(es:List aj)(d:List Int):(dt es d).length<=es.length:=List.length_filter_le _ _
theorem Pa(h:pw y)(f1 f2:Fl)(add:List aj)(drop:List Int)(hal:add.length<=1000)(hdl:drop.length<=1000)(PI:y.es.length+add.length<=100000){L:List aX}{μ:Mem}(hO:Ow (cw r y::L) μ){K:Kq}
  (hk:∀e l y' μ',mj y.B y.M y.es y.ps add drop e l->pw y'->y'.B=y.B->y'.M=y.M->y'.ps=y.ps->l.Perm y'.es->Ow (cw r y'::L) μ'->K (pI e) μ'):
  aa prog 42 [pP r 0,.list 12 f1 (add.map aj.pv),.list 1 f2 (drop.map gV)] μ K:=by
 have same:∀{e:Int} {u:Mem},mj y.B y.M y.es y.ps add drop e y.es->Ow (cw r y::L) u->K (pI e) u:=λhc hu=>hk _ _ y _ hc h rfl rfl rfl (List.Perm.refl _) hu;refine ri.c ?_;refine ao.each (n:=add.length) (by omega) (λk u=>(∀e∈add.take k,kp e=true/\1<=e.tag)/\u=μ) ⟨by simp,rfl⟩ ?_ ?_
 ·rintro k u next cj ⟨hg,rfl⟩ aw
  refine ab.t (by simpa using cj) ⟨by omega,_,aH cj,_,_,_,_,_,_,_,_,_,_,_,_,rfl,(KS add[k]).call ⟨_,rfl,ab.mk (λhv=>?_) (λhv=>⟨by omega,_,aH cj,_,rfl,ab.mk (λht=>?_) (λht=>aw _ ⟨λe he=>?_,rfl⟩)⟩)⟩⟩
  ·refine same (.form λgZ=>?_) hO;rw[(gZ _ (getElem_mem cj)).1]at hv;cases hv
  ·refine same (.form λgZ=>?_) hO;have h1:=(gZ _ (getElem_mem cj)).2;have:add[k].tag<1:=by simpa using ht
   omega
  ·rcases(eB cj).1 he with he|rfl
   ·exact hg e he
   ·exact⟨nt hv,by have:¬add[k].tag<1:=by simpa using ht
                   omega⟩
 rintro u next ⟨gZ,rfl⟩
 rw[take_length]at gZ;have gZ:vz add:=gZ;obtain⟨f,uD⟩:=cw.open_ hO;refine ab.f (by simp) ⟨_,_,uD.rd 0 rfl (by simp),?_⟩;refine ao.dG (n:=drop.length) (by omega) (λi s u=>s.2=(dt y.es (drop.take i)).map aj.pv/\eW y.es (drop.take i)/\Ow (Pt r 53 (y.pv f)::L) u) ⟨?_,⟨by simp,by simp⟩,uD⟩ ?_ ?_
 ·have:dt y.es (drop.take 0)=y.es:=List.filter_eq_self.2 λe _=>by simp
  rw[this]
 ·rintro i ⟨g,_⟩ u1 mM hi ⟨rfl,hd,h1⟩ kq;dsimp only at h1 |-;have hlen:=Eb y.es (drop.take i);refine ab.t (by simpa using hi) ?_;refine ao.dG (n:=(dt y.es (drop.take i)).length) (by omega) (λk s u=>∃q:List aj,s.2=q.map aj.pv/\q=((dt y.es (drop.take i)).take k).filter (λe=> !(e.tag == drop[i]))/\Ow (fB s.1 q.length 12::Pt r 53 (y.pv f)::L) u) ⟨[],rfl,by simp,h1.nil (.inl rfl)⟩ ?_ ?_
  ·rintro k ⟨g2,_⟩ u2 Hz eT ⟨q,rfl,hq,h2⟩ oJ;have hql:q.length<=k:=by rw[hq];exact Nat.le_trans (List.length_filter_le _ _) (by rw[length_take];omega)
   refine ab.t (by simpa using eT) ⟨by omega,_,aH eT,_,rfl,by omega,_,aH hi,_,rfl,ab.mk (λaZ=>?_) (λhe=>?_)⟩
   ·have aZ:((dt y.es (drop.take i))[k].tag == drop[i])=false:=by simpa using aZ
    refine⟨by omega,_,aH eT,_,_,_,_,_,_,_,_,_,_,_,_,rfl,?_⟩;refine h2.app (by simp) (by simp;omega) (by simp;omega) λg3 u3 h3=>oJ _ _ ⟨q++[(dt y.es (drop.take i))[k]],by rw[map_append];rfl,?_,by rw[length_append];exact h3⟩;rw[lj eT,List.filter_append,<- hq];simp[aZ]
   ·have he:((dt y.es (drop.take i))[k].tag == drop[i])=true:=by simpa using he
    refine oJ _ _ ⟨q,rfl,?_,h2⟩;rw[lj eT,List.filter_append,<- hq];simp[he]
  ·rintro⟨g2,_⟩ u2 Hz ⟨q,rfl,hq,h2⟩;rw[take_length,tS hi]at hq;subst hq;refine ab.f (by simp) (ab.mk (λhe=>?_) (λaZ=>?_))
   ·have he:(dt y.es (drop.take (i+1))).length=(dt y.es (drop.take i)).length:=by simp only[length_map,beq_iff_eq]at he;omega
    exact same (.none gZ (KL hi he)) (cw.shut (f:=f) h2.drop)
   ·have aZ:(dt y.es (drop.take (i+1))).length≠(dt y.es (drop.take i)).length:=by simp only[length_map,beq_eq_false_iff_ne,ne_eq]at aZ;omega
    exact kq _ _ ⟨rfl,FL hi hd aZ,h2.drop⟩
 rintro⟨g,_⟩ u1 mM ⟨rfl,hd,h1⟩;rw[take_length]at hd;dsimp only at h1 |-;rw[take_length];have hlen:=Eb y.es drop;refine ab.f (by simp) (mf.c ?_);refine Ow.WD h1 (by simp;omega) (by simp;omega) λg1 u2 h2=>⟨_,_,rfl,?_⟩;rw[length_map]at h2;rw[List.nil_append];refine ao.dG (n:=add.length) (by omega) (λi s u=>s.2=(dt y.es drop++add.take i).map aj.pv/\eN y.es (add.take i) drop/\Ow (fB s.1 ((dt y.es drop).length+i) 12::Pt r 53 (y.pv f)::L) u) ⟨by simp,⟨by simp,by simp⟩,h2⟩ ?_ ?_
 ·rintro i ⟨g2,_⟩ u3 Re hi ⟨rfl,ha,h3⟩ Ft;dsimp only at h3 |-;refine ab.t (by simpa using hi) ?_;refine ao.each (n:=(dt y.es drop++add.take i).length) (by simp;omega) (λk u=>(∀e∈(dt y.es drop++add.take i).take k,e.tag≠add[i].tag)/\u=u3) ⟨by simp,rfl⟩ ?_ ?_
  ·rintro k u4 Rd hk4 ⟨dc,rfl⟩ Ks;refine ab.t (decide_eq_true (by rw[length_map];exact Int.ofNat_lt.2 hk4)) ⟨by omega,_,aH hk4,_,rfl,by omega,_,aH hi,_,rfl,ab.mk (λhe=>?_) (λaZ=>Ks _ ⟨λe he=>?_,rfl⟩)⟩
   ·have he:(dt y.es drop++add.take i)[k].tag=add[i].tag:=by simpa using he
    exact same (.there gZ hd (Ph hi ⟨_,getElem_mem hk4,he⟩)) (cw.shut (f:=f) h3.drop)
   ·rcases(eB hk4).1 he with he|rfl
    ·exact dc e he
    ·simpa using aZ
  ·rintro u4 Rd ⟨dc,rfl⟩;rw[take_length]at dc;refine ab.f (by simp) ⟨by omega,_,aH hi,_,_,_,_,_,_,_,_,_,_,_,_,rfl,?_⟩;refine h3.app (by simp;omega) (by simp;omega) (by simp;omega) λg3 u5 h5=>Ft _ _ ⟨?_,IN hi ha dc,h5⟩;rw[lj hi,<- List.append_assoc,map_append (l₂:=[add[i]])];rfl
 rintro⟨g2,_⟩ u3 Re ⟨rfl,ha,h3⟩;rw[take_length]at ha;dsimp only at h3 |-;rw[take_length];have jB:=aah h.ne ha;obtain⟨l',zH,tK⟩:=ace jB;have hNE:=Wg zH tK;have T_:(dt y.es drop++add).length<=100000:=by rw[length_append];omega
 refine ab.f (by simp) ?_;dsimp only[nP,nn,aU];refine h3.drop.st 0 rfl (by simp) λu4 h4=>?_;have h5:Ow (cw r ⟨y.B,y.M,y.ps,dt y.es drop++add,y.tk,y.mo⟩::L) u4:=cw.shut (x:=⟨y.B,y.M,y.ps,dt y.es drop++add,y.tk,y.mo⟩) (f:=(f.1,g2,f.2.2.1,f.2.2.2)) h4;have CF:(∃p∈y.ps,dz y.B (dt y.es drop++add) p.conds)↔∃p∈y.ps,dz y.B l' p.conds:=by
  constructor
  ·rintro⟨p,hp,ho⟩;exact⟨p,hp,(tj tK).2 ho⟩
  ·rintro⟨p,hp,ho⟩;exact⟨p,hp,(tj tK).1 ho⟩
 have jX:=GW tK y.ps;have back:∀{u:Mem} {e:Int},Ow (cw r ⟨y.B,y.M,y.ps,dt y.es drop++add,y.tk,y.mo⟩::L) u->e≠0->mj y.B y.M y.es y.ps add drop e y.es->ab ((e:Int) != 0) (nP (some ⟨r,0,none⟩) λTy QZ=>stM Ty (QZ+3) [.list 12 f.2.1 (y.es.map aj.pv)] u λNp=>K (pI e) Np) (K (pI e) u):=λhu he hc=>by
  obtain⟨f',h6⟩:=cw.open_ hu;refine ab.t (by simpa using he) ?_;dsimp only[nP,nn,aU];refine h6.st 0 rfl (by simp) λu5 h7=>same hc (cw.shut (f:=(f'.1,f.2.1,f'.2.2.1,f'.2.2.2)) h7)
 refine Tq (x:=⟨y.B,y.M,y.ps,dt y.es drop++add,y.tk,y.mo⟩) h.b h.Ji h.KJ T_ jB h5 (λho u5 h6=>⟨_,rfl,back h6 (by omega) (.dO gZ hd ha l' hNE (CF.1 ho))⟩) (λho hs u5 h6=>⟨_,rfl,back h6 (by omega) (.eb gZ hd ha l' hNE (λhc=>ho (CF.2 hc)) (by rw[jX];exact hs))⟩) (λho hs u5 h6=>⟨_,rfl,ab.f rfl (hk 0 l' _ _ (.ok gZ hd ha l' hNE (λhc=>ho (CF.2 hc)) (by rw[jX];exact hs)) (h.chg T_ jB ho hs) rfl rfl rfl tK h6)⟩)
end
def Mj(ps:List Prod)(n:Nat):Prop:=ps.length<=n/\∀p∈ps,Ro p
theorem mj.SE{B M:Int}{es:List aj}{ps:List Prod}{add:List aj}{drop:List Int}{e:Int}{pK:List aj}(h:mj B M es ps add drop e pK):∀x∈pK,x∈add\/x∈es:=by
 intro x hx;cases h with
 |ok _ _ _ _ h4=>rcases(h4.2 x).1 hx with h|⟨h,_⟩
                 ·exact .inl h
                 ·exact .inr h
 |_=>exact .inr hx
theorem mj.aio{B M:Int}{es:List aj}{ps:List Prod}{add:List aj}{drop:List Int}{e:Int}{pK:List aj}(h:mj B M es ps add drop e pK)(hv:∀x∈es,kp x=true):∀x∈pK,kp x=true:=by
 intro x hx;cases h with
 |ok hg _ _ _ h4=>rcases(h4.2 x).1 hx with h|⟨h,_⟩
                  ·exact(hg x h).1
                  ·exact hv x h
 |_=>exact hv x hx
theorem AK{α:Type}[DecidableEq α]:∀{l m:List α},l.Nodup->(∀x∈l,x∈m)->l.length<=m.length
 |[],_,_,_=>Nat.zero_le _
 |a::l,m,h,hs=>by
  obtain⟨h1,h2⟩:=List.nodup_cons.1 h
  have ha:=hs a (by simp);have h3:=AK (m:=m.erase a) h2 λx hx=>(List.mem_erase_of_ne (λe:x=a=>h1 (by rw[<- e];exact hx))).2 (hs x (by simp[hx]));rw[List.length_erase_of_mem ha]at h3;have:=List.length_pos_of_mem ha;simp only[List.length_cons];omega
theorem mj.len{B M:Int}{es:List aj}{ps:List Prod}{add:List aj}{drop:List Int}{e:Int}{pK:List aj}(hu:bY au aD es)(h:mj B M es ps add drop e pK):pK.length<=es.length+add.length:=by
 have h1:=GM (h.up hu);have h2:pK.length<=(es++add).length:=by
  classical
  refine AK h1 λx hx=>?_;rcases h.SE x hx with h|h
  ·simp[h]
  ·simp[h]
 rwa [length_append]at h2
theorem rm.mem{B M:Int}{es:List aj}{ps:List Prod}{p:Prod}{e:Int}{Gw:List Prod}(h:rm B M es ps p e Gw):∀q∈Gw,q=p\/q∈ps:=by
 intro q hq;cases h with
 |ok=>rcases(bg cy).1 hq with h|⟨h,_⟩
      ·exact .inl h
      ·exact .inr h
 |_=>exact .inr hq
theorem Ws(f1 f2:Fl){ps:List Prod}{m:Nat}(hm:m<=20)(hp:Mj ps m)(es:List aj)(he:es.length<=40){L:List aX}{μ:Mem}(hO:Ow L μ){K:Kq}
  (hk:∀n r x pq rS y μ',x.T=200->x.M=400->(∀e∈pq,(1<=e.tag/\e.tag<=40)/\kp e=true)->pq.length<=40->(∀p∈rS,p∈ps)->TV x pq rS y->Ow (ko n x pq rS 20::cw r y::L) μ'->K (.aA [pP n 0,pP r 0]) μ'):
  aa prog 12 [.list 3 f1 (ps.map Prod.pv),.list 12 f2 (es.map aj.pv)] μ K:=by
 obtain⟨pJ,Mr⟩:=hp;refine rh.c ?_;refine XW 200 400 hO (λh=>absurd (by omega) h) λ_ n x u hT hM h1=>⟨_,_,rfl,ab.f rfl (ab.f rfl ?_)⟩;intro r hr;have h2:=h1.new 53 (BO.pv ⟨200,400,[],[],[],[]⟩ (.nil,.nil,.nil,.nil)) hr;have hy:pw ⟨200,400,[],[],[],[]⟩:=⟨show(1:Int)<=200/\(200:Int)<=1024 by omega,show(400:Int)<=1024 by omega,Pairwise.nil,by simp,by simp,by simp,Pairwise.nil,rfl,rfl,by simp,by simp[cW]⟩;have h3:Ow (ko n x [] [] 0::cw r ⟨200,400,[],[],[],[]⟩::L) _:=Ow.swap (cw.shut (x:=⟨200,400,[],[],[],[]⟩) h2);refine ao.each (n:=ps.length) (by omega) (λi u=>∃rS y,TV x [] rS y/\(∀q∈rS,q∈ps)/\Ow (ko n x [] rS i::cw r y::L) u) ⟨[],_,⟨hy,hT.symm,hM.symm,rfl,Pairwise.nil,List.Perm.refl _⟩,by simp,h3⟩ ?_ ?_
 ·rintro i u1 next hi ⟨rS,y,hb,jV,h4⟩ aw
  have hpi:=Mr _ (getElem_mem hi);obtain⟨q1,q2,q3⟩:=hpi;have Ou:y.ps.length<=i:=by
   rw[hb.ps];obtain⟨_,_,_,_,_,_,_,⟨hR,_⟩,_⟩:=ko.open_ h4;exact hR.LS
  have aaP:∀{u:Mem} {F:Kq},Ow (ko n x [] rS i::cw r y::L) u->(∀e u',(∀{F2:Kq},(∀u2,(∃rS y,TV x [] rS y/\(∀q∈rS,q∈ps)/\Ow (ko n x [] rS (i+1)::cw r y::L) u2)->F2 (pI e) u2)->aa prog 41 [pP r 0,.agg [pS ps[i].name,.list 7 .sh (ps[i].conds.map ae.pv),.list 19 .sh (ps[i].bh.map cN.pv)]] u' F2)->F (pI e) u')->aa prog 32 [pP n 0,.agg [pS ps[i].name,.list 7 .sh (ps[i].conds.map ae.pv),.list 19 .sh (ps[i].bh.map cN.pv)]] u F:=λ{u F} hu hF=>by
   refine XX (by omega) .sh .sh ps[i] q1 (by omega) (by omega) hu λe ps2 u2 CJ h5=>hF e u2 λ{F2} Sr=>?_;refine aaH hb.ok (by omega) .sh .sh ps[i] q1 (by omega) (by omega) (Ow.swap h5) λe' ps3 y' u3 adY Zq hB' hM' ahB Zo h6=>?_;have adX:rm x.T x.M [] rS ps[i] e' ps3:=by
    have:=adY.perm hb.es;rw[hb.B,hb.M,hb.ps]at this;exact this
   obtain⟨rfl,rfl⟩:=CJ.uniq adX;refine Sr u3 ⟨ps2,y',⟨Zq,hB'.trans hb.B,hM'.trans hb.M,Zo,hb.up,by rw[ahB];exact hb.es⟩,λq hq=>?_,Ow.swap h6⟩;rcases CJ.mem q hq with rfl|hq
   ·exact getElem_mem hi
   ·exact jV q hq
  have cp:=BD .sh .sh ps[i] ⟨q1,q2,q3⟩;have ne:∀e:Int,((e != e):Bool)=false:=λe=>by simp
  refine ab.t (by simpa using hi) ⟨by omega,_,aH hi,_,_,_,_,_,rfl,by omega,_,aH hi,⟨_,_,_,_,_,rfl,cp.call ⟨_,_,_,_,_,rfl,aaP h4 λe u2 CJ=>⟨_,rfl,cp.call ⟨_,_,_,_,_,rfl,CJ λu3 hI=>⟨_,rfl,ab.f (ne _) (aw _ hI)⟩,trivial⟩,trivial⟩,trivial⟩,trivial⟩,cp.call ⟨_,_,_,_,_,rfl,⟨_,_,_,_,_,rfl,aaP h4 λe u2 CJ=>⟨_,rfl,cp.call ⟨_,_,_,_,_,rfl,CJ λu3 hI=>⟨_,rfl,ab.f (ne _) (aw _ hI)⟩,trivial⟩,trivial⟩,trivial⟩,aaP h4 λe u2 CJ=>⟨_,rfl,_,_,_,_,_,rfl,cp.call ⟨_,_,_,_,_,rfl,CJ λu3 hI=>⟨_,rfl,ab.f (ne _) (aw _ hI)⟩,trivial⟩,trivial⟩,trivial⟩,trivial⟩
 ·rintro u1 next ⟨rS,y,hb,jV,h4⟩
  have h4':Ow (ko n x [] rS 20::cw r y::L) u1:=by
   obtain⟨T,ms,ids,tk,ct,fr,mn,⟨hR,pH⟩,h5⟩:=ko.open_ h4;exact ko.shut (hR.mono (by omega) λ_ h=>h) pH h5
  refine ab.f (by simp) ?_;refine ao.each (n:=es.length) (by omega) (λi u=>∃pq y,TV x pq rS y/\(∀e∈pq,(1<=e.tag/\e.tag<=(i:Int))/\kp e=true)/\pq.length<=i/\Ow (ko n x pq rS 20::cw r y::L) u) ⟨[],y,hb,by simp,by simp,h4'⟩ ?_ ?_
  ·rintro i u2 Hz hi ⟨pq,y2,ph,Zd,tK,h5⟩ oJ;have ew:IntKind.wrap .i64 (((i:Nat):Int)+1)=((i+1:Nat):Int):=by rw[aC (by omega) (by omega)];rfl
   have Ou:y2.es.length<=i:=by rw[<- ph.es.length_eq];exact tK
   let e0:aj:={es[i]with tag:=((i+1:Nat):Int)};have chg:∀{u:Mem} {F:Kq},Ow (ko n x pq rS 20::cw r y2::L) u->(∀e u',(∀{F2:Kq},(∀u2,(∃pq y,TV x pq rS y/\(∀e∈pq,(1<=e.tag/\e.tag<=((i+1:Nat):Int))/\kp e=true)/\pq.length<=i+1/\Ow (ko n x pq rS 20::cw r y::L) u2)->F2 (pI e) u2)->aa prog 42 [pP r 0,.list 12 .nr ([e0].map aj.pv),.list 1 .nil (([]:List Int).map gV)] u' F2)->F (pI e) u')->aa prog 33 [pP n 0,.list 12 .nr ([e0].map aj.pv),.list 1 .nil (([]:List Int).map gV)] u F:=λ{u F} hu hF=>by
    refine IC (by omega) .nr .nil [e0] [] (by simp) (by simp) (by simp;omega) (λe he=>by simp only[List.mem_singleton]at he;subst he;show((i+1:Nat):Int)<_;omega) hu λe es2 u3 hc h6=>hF e u3 λ{F2} Sr=>?_;refine Pa ph.ok .nr .nil [e0] [] (by simp) (by simp) (by simp;omega) (Ow.swap h6) λe' l y' u4 sH Zq hB' hM' Zo Xv h7=>?_;rw[ph.B,ph.M,ph.ps]at sH;obtain⟨rfl,ag8⟩:=hc.same ph.es sH;refine Sr u4 ⟨es2,y',⟨Zq,hB'.trans ph.B,hM'.trans ph.M,Zo.trans ph.ps,hc.up ph.up,ag8.trans Xv⟩,λe he=>?_,?_,Ow.swap h7⟩
    ·refine⟨?_,hc.aio (λe he=>(Zd e he).2) e he⟩;rcases hc.SE e he with h|h
     ·simp only[List.mem_singleton]at h;subst h;show 1<=((i+1:Nat):Int)/\_;exact⟨by omega,Int.le_refl _⟩
     ·have:=(Zd e h).1;omega
    ·have:=hc.len ph.up;simp at this;omega
   have ne:∀e:Int,((e != e):Bool)=false:=λe=>by simp
   refine ab.t (by simpa using hi) ⟨by omega,_,aH hi,_,_,_,_,_,_,_,_,_,_,_,_,rfl,?_⟩;rw[ew]at oJ |-;exact⟨⟨chg h5 λe u3 hc=>⟨_,rfl,⟨hc λu4 hI=>⟨_,rfl,ab.f (ne _) (oJ _ hI)⟩,trivial⟩,trivial⟩,⟨chg h5 λe u3 hc=>⟨_,rfl,hc λu4 hI=>⟨_,rfl,ab.f (ne _) (oJ _ hI)⟩,trivial⟩,trivial⟩,trivial⟩,chg h5 λe u3 hc=>⟨_,rfl,⟨hc λu4 hI=>⟨_,rfl,ab.f (ne _) (oJ _ hI)⟩,trivial⟩,trivial⟩,trivial⟩
  ·rintro u2 Hz ⟨pq,y2,ph,Zd,tK,h5⟩;exact ab.f (by simp) (hk n r x pq rS y2 u2 hT hM (λe he=>⟨by have:=(Zd e he).1;omega,(Zd e he).2⟩) (by omega) jV ph h5)
theorem zw(u:Mem):aa prog 7 [] u λv u'=>∃x,v=(pB x)/\wk (pB x)=pB true:=SU.call ⟨_,rfl,rfl⟩
theorem ko.facts{n:Nat}{x:NC}{es:List aj}{ps:List Prod}{w:Nat}{L:List aX}{μ:Mem}(h:Ow (ko n x es ps w::L) μ):((cW es ps:Nat):Int)<=x.M/\x.M<=1024/\bY au aD es/\bY bE jQ ps/\(∀q∈ps,rX q)/\ps.length<=w:=by
 obtain⟨_,_,_,_,_,_,_,⟨hR,hs⟩,_⟩:=ko.open_ h;exact⟨hs,hR.mb.2,hR.core.use.inv.wz,hR.Nn,hR.Ji,hR.LS⟩
theorem HH{es:List aj}(hn:HB es)(p:Prod):(jz es p).length=(az es p.conds).length:=by unfold jz;rw[length_map,rB (jL hn _)]
theorem Ol{es:List aj}(hn:HB es){p:Prod}(hp:rX p):∀m∈jz es p,m.tags.length<=1000:=by
 intro m hm;obtain⟨t,ht,rfl⟩:=mem_map.1 hm;have ht:=((lE (jL hn p.conds)).2 t).1 ht;rw[<- mE]at ht;obtain⟨q,hq,rfl⟩:=mem_map.1 ht;have h1:=qf (es:=es) (l:=p.conds) (ts:=[Cr]) (m:=0) (by simp[Cr]) q hq;obtain⟨_,_,_,g4,_⟩:=hp.facts;have:=c_ p.conds;show q.tags.length<=1000;omega
theorem Pg{es:List aj}(hn:HB es){ps:List Prod}(hp:∀q∈ps,rX q):∀m∈allM es ps,m.tags.length<=1000000000:=by
 intro m hm;obtain⟨p,h1,h2⟩:=List.mem_flatMap.1 hm;have:=Ol hn (hp p h1) m h2;omega
theorem Kg{α:Type}(f:α->Nat):∀{l:List α} {a:α},a∈l->f a<=(l.map f).sum
 |x::l,a,h=>by
  rw[map_cons,List.sum_cons]
  rcases mem_cons.1 h with rfl|h
  ·omega
  ·have:=Kg f h;omega
def ofM(es:List aj)(ps:List Prod)(s:ByteArray):List Mt:=match aL bE jQ s ps with
 |some q=>jz es q
 |none=>[]
@[reducible] def YG(n:Nat)(s:ByteArray):PV:=.fn (.func 43) [] [.bk [pP n 0] 0,.bk [pS s] 0]
theorem aeo(n:Nat)(s:ByteArray):Pure prog 14 [pP n 0,pS s] (YG n s):=av.of (CY.c rfl)
@[reducible] def ais(f1 f2 f3:Fl)(T:Tree)(q:Prod):List PV:=[pS q.name,.list 7 f1 (q.conds.map ae.pv),.list 19 f2 (q.bh.map cN.pv),.list 1 f3 ((dJ T.B q.conds).map λb=>[pP b 0])]
section
variable {n:Nat} {x:NC} {es:List aj} {ps:List Prod} {w:Nat}
theorem Qw(hw:w<=1000)(s:ByteArray):Gf prog (YG n s) ((ofM es ps s).map λm=>[.agg m.pv]) (ko n x es ps w):=by
 refine Gf.mk λfy ya yb J S μ hy hO cO=>?_;show aa _ _ [.fn fy ya yb,.bk [pP n 0] 0,.bk [pS s] 0] _ _;obtain⟨T,ms,ids,tk,ct,fr,mn,⟨hR,pH⟩,h1⟩:=ko.open_ hO;have pJ:ps.length<=1000:=Nat.le_trans hR.LS hw;have shut:∀{u:Mem} {M:List aX},Ow (gw n x es ms ids T tk ct fr mn ps M) u->Ow (ko n x es ps w::M) u:=λh=>ko.shut hR pH h;refine zp.c ⟨λz u=>(z.2=true/\∃q b f1 f2 f3,aL bE jQ s ps=some q/\z.1=some ⟨b,0,none⟩/\Ow (gw n x es ms ids T tk ct fr mn ps [Pt b 108 (ais f1 f2 f3 T q),J 0]) u)\/(z.2=false/\aL bE jQ s ps=none/\Ow (gw n x es ms ids T tk ct fr mn ps [J 0]) u),?_,?_⟩
 ·refine⟨_,rfl,_,aI (ak.zb (x:=x) (es:=es) (ms:=ms) (ids:=ids) h1 (by simp)) (by simp),_,rfl,?_,?_⟩
  ·refine RP.iB (Ow.at 2 rfl h1) hR.u (by rw[length_map];omega) s (λy u hy h3=>?_) (λu hy h3=>?_)
   ·rw[yI]at hy;obtain⟨q,hq,rfl⟩:=Option.map_eq_some_iff.1 hy;refine⟨_,_,_,_,_,_,_,_,rfl,λb4 GC=>?_⟩;refine(h3.new _ _ GC).st 0 rfl (by simp) λu4 h4=>.inl ⟨rfl,q,b4,_,_,_,hq,rfl,Ow.ord [2,2,1,1,0,0] h4⟩
   ·rw[yI]at hy;refine⟨_,_,_,_,_,_,_,_,rfl,λb4 GC=>?_⟩;refine(h3.new _ _ GC).st 0 rfl (by simp) λu4 h4=>.inr ⟨rfl,Option.map_eq_none_iff.1 hy,Ow.ord [1,1,0,0,0] h4.drop⟩
  ·intro b4 GC;have h2:=Ow.ord [1,1,1,1,0,0] (h1.new 108 [pS ⟨#[]⟩,.list 7 .nil [],.list 19 .nil [],.list 1 .nil []] GC);refine RP.iB (Ow.at 2 rfl h2) hR.u (by rw[length_map];omega) s (λy u hy h3=>?_) (λu hy h3=>?_)
   ·rw[yI]at hy;obtain⟨q,hq,rfl⟩:=Option.map_eq_some_iff.1 hy;refine⟨_,_,_,_,_,_,_,_,rfl,?_⟩;refine h3.st 4 rfl (by simp) λu4 h4=>.inl ⟨rfl,q,b4,_,_,_,hq,rfl,Ow.ord [1,1,0,0,0,0] h4⟩
   ·rw[yI]at hy;refine⟨_,_,_,_,_,_,_,_,rfl,?_⟩;refine h3.st 4 rfl (by simp) λu4 h4=>.inr ⟨rfl,Option.map_eq_none_iff.1 hy,(Ow.ord [1,1,0,0,0,0] h4).tail λ_ h=>h.tail λ_ h=>h.tail λ_ h=>h.tail λ_ h=>h.drop⟩
 ·rintro⟨_,_⟩ u (⟨rfl,q,b,f1,f2,f3,hq,rfl,h2⟩|⟨rfl,dc,h2⟩)
  ·have e:ofM es ps s=jz es q:=by unfold ofM;rw[hq]
   obtain⟨hqm,hqn⟩:=(a_ cy hR.Nn).1 hq;have hqn:q.name=s:=hqn;have aG:=hR.Ji _ hqm;have hD:=hR.pD _ hqm;have DP:=hR.len hD;refine ab.f rfl ⟨_,rfl,?_⟩;dsimp only[nP,nn,aU];refine⟨_,_,_,_,_,_,_,h2.rd 4 rfl (by simp),?_⟩;refine cOf s hR.tags aG hD (hR.core.dO.tok _ hD) DP _ _ _ (Ow.ord [1] h2) λf u3 h3=>⟨_,_,rfl,?_⟩;have aZ:=jL (Ly hR.core.use.inv.wz) q.conds;have Zv:((gH (az es q.conds)).map λt=>(⟨s,t.tags⟩:Mt))=ofM es ps s:=by rw[e,<- hqn];rfl
   rw[Zv];have adq:(ofM es ps s).length<=1024:=by rw[e];unfold jz;rw[length_map,rB aZ];exact DP
   have h4:Ow (gw n x es ms ids T tk ct fr mn ps [J 0]) u3:=(Ow.ord [1,0,0,0,0,0] h3).tail λ_ h=>h.tail λ_ h=>h.tail λ_ h=>h.tail λ_ h=>h.drop;refine ao.each (n:=(ofM es ps s).length) (by omega) (λk u=>Ow (gw n x es ms ids T tk ct fr mn ps [J k]) u) h4 ?_ ?_
   ·rintro k u4 next hk h4 aw
    refine ab.t (by simpa using hk) ⟨by omega,_,aH hk,_,_,_,rfl,?_⟩;have fK:∀ν,J k ν->bJ prog (.fn fy ya yb) [.agg (ofM es ps s)[k].pv] ν λv μ'=>(v=pB true/\Ow [J (k+1)] μ')\/(v=pB false/\Ow [S] μ'):=λν hν=>by
     have h:=cO k (by rw[length_map];exact hk) ν hν;rw[getElem_map]at h;exact h
    refine Ow.yQ (Ow.ord [4] h4) fK λv u5 h5=>?_;rcases h5.s_ with⟨rfl,h6⟩|⟨rfl,h6⟩
    ·exact⟨_,rfl,ab.f rfl (aw _ (Ow.ord [1,1,1,1,0] h6))⟩
    ·exact⟨_,rfl,ab.t rfl (.inr (shut (Ow.ord [1,1,1,1,0] h6)))⟩
   ·rintro u4 next h4
    refine ab.f (by simp) (.inl ?_);rw[length_map];exact shut h4
  ·have e:ofM es ps s=[]:=by unfold ofM;rw[dc]
   rw[e];exact ab.t rfl (.inl (shut h2))
theorem aiA(hw:w<=1000)(s:ByteArray){L:List aX}{μ:Mem}(hO:Ow (ko n x es ps w::L) μ){F:Kq}(hk:∀f μ',Ow (ko n x es ps w::L) μ'->F (.list 2 f ((ofM es ps s).map Mt.pv)) μ'):aa prog 13 [YG n s] μ F:=by
 obtain⟨h1,h2,h3,h4,_⟩:=ko.facts hO;refine Ti (l:=ofM es ps s) (Qw hw s) ?_ hO hk;unfold ofM;cases hq:aL bE jQ s ps with
 |none=>simp
 |some q=>
  show(jz es q).length<=_;rw[HH (Ly h3)];have hm:=((a_ cy h4).1 hq).1;have:(az es q.conds).length<=cW es ps:=by
   unfold cW;exact Kg (λq:Prod=>(az es q.conds).length) hm
  omega
end
theorem No{ps:List Prod}(h:bY bE jQ ps):ps.Nodup:=by
 refine h.imp λ{a b} xw e=>?_;rw[e]at xw;rw[cy.self]at xw;omega
theorem Yk{l m:List Prod}(hn:l.Nodup)(hm:m.length<=l.length)(hs:∀x∈l,x∈m):∀x∈m,x∈l:=by
 classical
 intro x hx;refine Classical.byContradiction λhc=>?_;have h1:l.length<=(m.erase x).length:=AK hn λy hy=>(List.mem_erase_of_ne (λe:y=x=>hc (e▸hy))).2 (hs y hy);rw[List.length_erase_of_mem hx]at h1;have:=List.length_pos_of_mem hx;omega
section
variable {n:Nat} {x:NC} {es:List aj} {ps:List Prod} {w:Nat}
theorem QY{s:ByteArray}{q:Prod}(h:aL bE jQ s ps=some q):ofM es ps s=jz es q:=by unfold ofM;rw[h]
end
abbrev PY:TypeId:=37
abbrev ic:TypeId:=102
abbrev dF:TypeId:=84
theorem Yp(l:List Sym):∀r∈l.map Sym.pv,r.length=3:=Ar (pv:=Sym.pv) (λ_=>rfl) l
theorem Ut(l:List Sym):aQ (l.map Sym.pv).flatten=true:=nC (pv:=Sym.pv) (λ_=>rfl) l
def Nh(d:Bool)(l:List Sym)(q:PV):aX:=λμ=>bif d then cA PY 3 q (l.map Sym.pv) μ else q=.list 3 .sh (l.map Sym.pv)
@[reducible] def lB(x:Test×PV):List PV:=[pI x.1.rel,pS x.1.var,pI x.1.sym.k,pS x.1.sym.t,pI x.1.sym.n,x.2]
def oe(d:Bool)(x:Test×PV):aX:=Nh d x.1.list x.2
def de(d:Bool)(l:List Test)(p:PV):aX:=λμ=>∃X:List (Test×PV),X.map (·.1)=l/\(∀x∈X,x.2.cell=true)/\Ow (cA ic 6 p (X.map lB)::X.map (oe d)) μ
@[reducible] def fU(x:ae×PV×PV×PV):List PV:=[pI x.1.kind,pB x.1.goal,pS x.1.id,x.2.1,x.2.2.1,pB x.1.acc,x.2.2.2]
def cZ(d:Bool):Nat->List ae->PV->aX
 |0,l,p=>λμ=>l=[]/\cA dF 7 p [] μ
 |n+1,l,p=>λμ=>∃X:List (ae×PV×PV×PV),X.map (·.1)=l/\(∀x∈X,x.2.1.cell=true/\x.2.2.1.cell=true/\x.2.2.2.cell=true)/\
   Ow (cA dF 7 p (X.map fU)::X.map λx=>Ow [de d x.1.attr x.2.1,de d x.1.value x.2.2.1,cZ d n x.1.conds x.2.2.2]) μ
def iJ(d:Bool)(n:Nat)(x:ae×PV×PV×PV):aX:=Ow [de d x.1.attr x.2.1,de d x.1.value x.2.2.1,cZ d n x.1.conds x.2.2.2]
theorem LD(X:List (Test×PV)):∀r∈X.map lB,r.length=6:=λr hr=>by obtain⟨x,_,rfl⟩:=mem_map.1 hr;rfl
theorem FT(X:List (ae×PV×PV×PV)):∀r∈X.map fU,r.length=7:=λr hr=>by obtain⟨x,_,rfl⟩:=mem_map.1 hr;rfl
theorem Nh.view{d:Bool}{l:List Sym}{q:PV}{ν μ:Mem}(h:Nh d l q ν)(hi:Mem.inc ν μ):gf μ q (.list 3 .sh (l.map Sym.pv)):=by
 cases d with
 |false=>rw[show q=_ from h];exact .same _
 |true=>
  obtain⟨F,hv⟩:cA PY 3 q (l.map Sym.pv) ν:=h;exact(hv.view (Yp l) (Ut l)).inc hi
theorem de.view{d:Bool}{l:List Test}{p:PV}{ν μ:Mem}(h:de d l p ν)(hi:Mem.inc ν μ):gf μ p (.list 6 .sh (l.map Test.pv)):=by
 obtain⟨X,rfl,_,hO⟩:=h;obtain⟨ν1,hv,PG⟩:=hO.mem _ (mem_cons_self ..);rw[map_map];refine cA.deep (f:=lB) (g:=Test.pv∘Prod.fst) (X:=X) hv (λb o hb=>hi b o (PG b o hb)) (λx _=>rfl) (λx _=>rfl) (λx _=>rfl) λx hx=>?_;obtain⟨ν2,hs,OB⟩:=hO.mem (oe d x) (mem_cons_of_mem _ (mem_map.2 ⟨x,hx,rfl⟩));exact dI.cons (.same _) (dI.cons (.same _) (dI.cons (.same _) (dI.cons (.same _) (dI.cons (.same _) (dI.cons (Nh.view hs λb o hb=>hi b o (OB b o hb)) (dI.nil _))))))
theorem cZ.view{d:Bool}:∀{n:Nat} {l:List ae} {p:PV} {ν μ:Mem},cZ d n l p ν->Mem.inc ν μ->gf μ p (.list 7 .sh (l.map ae.pv))
 |0,l,p,ν,μ,h,hi=>by
  obtain⟨rfl,F,hv⟩:=h
  exact(hv.view (by simp) rfl).inc hi
 |n+1,l,p,ν,μ,h,hi=>by
  obtain⟨X,rfl,_,hO⟩:=h;obtain⟨ν1,hv,PG⟩:=hO.mem _ (mem_cons_self ..);rw[map_map];refine cA.deep (f:=fU) (g:=ae.pv∘Prod.fst) (X:=X) hv (λb o hb=>hi b o (PG b o hb)) (λx _=>rfl) (λx _=>by show(ae.pv x.1).length=7;rw[ae.cG];rfl) (λx _=>by show aQ (ae.pv x.1)=true;rw[ae.cG];rfl) λx hx=>?_;obtain⟨ν2,hs,OB⟩:=hO.mem (iJ d n x) (mem_cons_of_mem _ (mem_map.2 ⟨x,hx,rfl⟩));have hs:Ow [de d x.1.attr x.2.1,de d x.1.value x.2.2.1,cZ d n x.1.conds x.2.2.2] ν2:=hs;have fT:∀{κ},Mem.inc κ ν2->Mem.inc κ μ:=λhk b o hb=>hi b o (OB b o (hk b o hb));obtain⟨κ1,a1,b1⟩:=hs.mem _ (mem_cons_self ..);obtain⟨κ2,a2,b2⟩:=hs.mem _ (mem_cons_of_mem _ (mem_cons_self ..));obtain⟨κ3,a3,b3⟩:=hs.mem _ (mem_cons_of_mem _ (mem_cons_of_mem _ (mem_cons_self ..)));show dI μ (fU x) (ae.pv x.1);rw[ae.cG];exact dI.cons (.same _) (dI.cons (.same _) (dI.cons (.same _) (dI.cons (de.view a1 (fT b1)) (dI.cons (de.view a2 (fT b2)) (dI.cons (.same _) (dI.cons (cZ.view a3 (fT b3)) (dI.nil _)))))))
theorem cZ.raw{d:Bool}{n:Nat}{l:List ae}{p:PV}{μ:Mem}(h:cZ d n l p μ):∃a c,p=.raw (.slice a l.length c):=by
 cases n with
 |zero=>
  obtain⟨rfl,hv⟩:=h;exact cA.raw hv
 |succ n=>
  obtain⟨X,rfl,_,hO⟩:=h;obtain⟨ν,hv,_⟩:=hO.mem _ (mem_cons_self ..);obtain⟨a,c,h⟩:=hv.raw;exact⟨a,c,by simpa using h⟩
theorem de.open_{d:Bool}{l:List Test}{p:PV}{L:List aX}{μ:Mem}(h:Ow (de d l p::L) μ):∃X:List (Test×PV),X.map (·.1)=l/\(∀x∈X,x.2.cell=true)/\Ow (cA ic 6 p (X.map lB)::(X.map (oe d)++L)) μ:=by
 obtain⟨X,h⟩:=Ow.ex h;obtain⟨h1,h⟩:=Ow.and h;obtain⟨h2,h⟩:=Ow.and h;exact⟨X,h1,h2,h.nest⟩
theorem de.shut{d:Bool}{p:PV}{X:List (Test×PV)}{L:List aX}{μ:Mem}(h2:∀x∈X,x.2.cell=true)(h:Ow (cA ic 6 p (X.map lB)::(X.map (oe d)++L)) μ):Ow (de d (X.map (·.1)) p::L) μ:=
 (Ow.pack (L1:=cA ic 6 p (X.map lB)::X.map (oe d)) h).imp λ_ hν=>⟨X,rfl,h2,hν⟩
theorem cZ.open_{d:Bool}{n:Nat}{l:List ae}{p:PV}{L:List aX}{μ:Mem}(h:Ow (cZ d (n+1) l p::L) μ):∃X:List (ae×PV×PV×PV),X.map (·.1)=l/\(∀x∈X,x.2.1.cell=true/\x.2.2.1.cell=true/\x.2.2.2.cell=true)/\Ow (cA dF 7 p (X.map fU)::(X.map (iJ d n)++L)) μ:=by
 obtain⟨X,h⟩:=Ow.ex h;obtain⟨h1,h⟩:=Ow.and h;obtain⟨h2,h⟩:=Ow.and h;exact⟨X,h1,h2,h.nest⟩
theorem cZ.shut{d:Bool}{n:Nat}{p:PV}{X:List (ae×PV×PV×PV)}{L:List aX}{μ:Mem}(h2:∀x∈X,x.2.1.cell=true/\x.2.2.1.cell=true/\x.2.2.2.cell=true)(h:Ow (cA dF 7 p (X.map fU)::(X.map (iJ d n)++L)) μ):Ow (cZ d (n+1) (X.map (·.1)) p::L) μ:=
 (Ow.pack (L1:=cA dF 7 p (X.map fU)::X.map (iJ d n)) h).imp λ_ hν=>⟨X,rfl,h2,hν⟩
theorem Qe{d:Bool}{X:List (Test×PV)}{a:Option Addr}{n c:Nat}{L:List aX}{u:Mem}(hO:Ow (cA ic 6 (.raw (.slice a n c)) (X.map lB)::(X.map (oe d)++L)) u)(t:Test)(q:PV)(hq:q.cell=true)(hl:X.length+1<=1000000){L2:List aX}{u2:Mem}(gg:Ow (oe d (t,q)::(cA ic 6 (.raw (.slice a n c)) (X.map lB)::(X.map (oe d)++L))) u2){K:Option Addr->Nat->Nat->Mem->Prop}
  (hk:∀b' c' u3,Ow (cA ic 6 (.raw (.slice b' (X.length+1) c')) ((X++[(t,q)]).map lB)::((X++[(t,q)]).map (oe d)++L)) u3->K b' (X.length+1) c' u3):
  gP 6 80 ic a n c (.list 6 .nr [[pI t.rel,pS t.var,pI t.sym.k,pS t.sym.t,pI t.sym.n,q]]) u2 K:=by
 obtain⟨a1,c1,hp,jf⟩:=cA.app gg.swap (LD X);simp only[PV.raw.injEq,Value.slice.injEq,length_map]at hp;obtain⟨rfl,rfl,rfl⟩:=hp;simp only[length_map]at jf;refine jf (lB (t,q)) _ _ rfl (by simp only[aQ,lB,all_cons,all_nil,hq];rfl) (by omega) (by omega) λb' c' u3 h3=>hk _ c' u3 ?_;have e1:(X++[(t,q)]).map lB=X.map lB++[lB (t,q)]:=by simp
 have e2:(X++[(t,q)]).map (oe d)++L=X.map (oe d)++oe d (t,q)::L:=by simp
 rw[e1,e2];exact h3.tail λν hν=>Ow.GN hν
theorem yS{L:List aX}{μ:Mem}(hO:Ow L μ)(f:Fl)(l:List Test)(hl:l.length<=100000)(ht:∀t∈l,t.list.length<=1000000){K:Kq}(hk:∀a c μ',Ow (de false l (.raw (.slice a l.length c))::L) μ'->K (.raw (.slice a l.length c)) μ'):aa prog 141 [.list 6 f (l.map Test.pv)] μ K:=by
 refine nh.c ?_;refine ao.dG (n:=l.length) (by omega) (λi x u=>∃X:List (Test×PV),X.map (·.1)=l.take i/\(∀x∈X,x.2.cell=true)/\x.2.1=X.length/\Ow (cA ic 6 (.raw (.slice x.1 x.2.1 x.2.2)) (X.map lB)::(X.map (oe false)++L)) u) ⟨[],rfl,by simp,rfl,cA.nil _ _ hO⟩ ?_ ?_
 ·rintro i ⟨a,n,c⟩ u next hi ⟨X,hX,hc,rfl,hO⟩ aw
  have hXl:X.length=i:=by have:=congrArg List.length hX;rw[length_map,length_take]at this;omega
  refine ab.t (by simpa using hi) ⟨by omega,_,aH hi,_,_,_,_,_,_,_,rfl,by omega,_,aH hi,_,_,rfl,?_⟩;refine(Em .sh l[i].list (ht _ (getElem_mem hi))).call ⟨_,_,rfl,?_⟩;have O1:Ow (oe false (l[i],.list 3 .sh (l[i].list.map Sym.pv))::(cA ic 6 (.raw (.slice a X.length c)) (X.map lB)::(X.map (oe false)++L))) u:=⟨M0,u,Mem.qk u,(Mem.BQ u).symm,rfl,hO⟩;refine Qe hO l[i] (.list 3 .sh (l[i].list.map Sym.pv)) rfl (by omega) (L2:=L) O1 λb' c' u3 O3=>aw _ _ ⟨X++[(l[i],.list 3 .sh (l[i].list.map Sym.pv))],?_,?_,by simp,O3⟩
  ·rw[map_append,hX,take_add_one,List.getElem?_eq_getElem hi];rfl
  ·intro x hx;rcases List.mem_append.1 hx with h|h
   ·exact hc x h
   ·simp at h;subst h;rfl
 ·rintro⟨a,n,c⟩ u next ⟨X,hX,hc,rfl,hO⟩
  rw[take_length]at hX;refine ab.f (by simp) ?_;subst hX;have:=hk a c u;rw[length_map]at this;exact this (de.shut hc hO)
theorem SI{d:Bool}{n0:Nat}{X:List (ae×PV×PV×PV)}{a:Option Addr}{n c:Nat}{L:List aX}(x:ae×PV×PV×PV)(hq:x.2.1.cell=true/\x.2.2.1.cell=true/\x.2.2.2.cell=true)(hl:X.length+1<=1000000){u2:Mem}(gg:Ow (iJ d n0 x::(cA dF 7 (.raw (.slice a n c)) (X.map fU)::(X.map (iJ d n0)++L))) u2){K:Option Addr->Nat->Nat->Mem->Prop}
  (hk:∀b' c' u3,Ow (cA dF 7 (.raw (.slice b' (X.length+1) c')) ((X++[x]).map fU)::((X++[x]).map (iJ d n0)++L)) u3->K b' (X.length+1) c' u3):
  gP 7 112 dF a n c (.list 7 .nr [fU x]) u2 K:=by
 obtain⟨a1,c1,hp,jf⟩:=cA.app gg.swap (FT X);simp only[PV.raw.injEq,Value.slice.injEq,length_map]at hp;obtain⟨rfl,rfl,rfl⟩:=hp;simp only[length_map]at jf;refine jf (fU x) _ _ rfl (by simp only[aQ,fU,all_cons,all_nil,hq.1,hq.2.1,hq.2.2];rfl) (by omega) (by omega) λb' c' u3 h3=>hk _ c' u3 ?_;have e1:(X++[x]).map fU=X.map fU++[fU x]:=by simp
 have e2:(X++[x]).map (iJ d n0)++L=X.map (iJ d n0)++iJ d n0 x::L:=by simp
 rw[e1,e2];exact h3.tail λν hν=>Ow.GN hν
theorem IE:∀(n:Nat) {L:List aX} {μ:Mem} (hO:Ow L μ) (f:Fl) (l:List ae) (hs:ah l<=n) (h6:ah l<=100000) (hl:bW l) {K:Kq} (hk:∀a c μ',Ow (cZ false n l (.raw (.slice a l.length c))::L) μ'->K (.raw (.slice a l.length c)) μ'),aa prog 39 [.list 7 f (l.map ae.pv)] μ K:=by
 intro n;induction n with
 |zero=>
  intro L μ hO f l hs h6 hl K hk;have:l=[]:=by
   cases l with
   |nil=>rfl
   |cons c l=>simp[ah,bN]at hs
  subst this;refine h_.c ?_;refine ao.dG (n:=0) (by omega) (λ_ x u=>x=(none,0,0)/\Ow L u) ⟨rfl,hO⟩ (λk x u next hk=>by omega) λx u next hx=>ab.f (by simp) ?_
  obtain⟨rfl,hO⟩:=hx;exact hk none 0 u ((cA.nil dF 7 hO).imp λ_ h=>⟨rfl,h⟩)
 |succ n ih=>
  intro L μ hO f l hs h6 hl K hk;have sF:=c_ l;refine h_.c ?_;refine ao.dG (n:=l.length) (by omega) (λi x u=>∃X:List (ae×PV×PV×PV),X.map (·.1)=l.take i/\(∀x∈X,x.2.1.cell=true/\x.2.2.1.cell=true/\x.2.2.2.cell=true)/\x.2.1=X.length/\Ow (cA dF 7 (.raw (.slice x.1 x.2.1 x.2.2)) (X.map fU)::(X.map (iJ false n)++L)) u) ⟨[],rfl,by simp,rfl,cA.nil _ _ hO⟩ ?_ ?_
  ·rintro i ⟨a,m,c⟩ u next hi ⟨X,hX,hc,rfl,hO⟩ aw
   have hXl:X.length=i:=by have:=congrArg List.length hX;rw[length_map,length_take]at this;omega
   have hm:=et (getElem_mem hi);obtain⟨_,ha,hv,Jk,Ox,nN⟩:=(bF _).1 (b_.1 hl _ (getElem_mem hi));refine ab.t (by simpa using hi) ⟨by omega,_,aH hi,_,_,_,_,_,_,_,_,_,_,mU _,?_⟩;refine oa.c ?_;refine yS hO .sh l[i].attr (by omega) (cS Jk) λa1 c1 u1 O1=>⟨_,_,_,rfl,?_⟩;refine yS O1 .sh l[i].value (by omega) (cS Ox) λa2 c2 u2 O2=>⟨_,_,_,rfl,?_⟩;refine ih O2 .sh l[i].conds (by omega) (by omega) nN λa3 c3 u3 O3=>⟨_,_,_,rfl,_,_,_,_,_,_,_,_,_,_,_,_,_,rfl,?_⟩;have O4:Ow (iJ false n (l[i],.raw (.slice a1 l[i].attr.length c1),.raw (.slice a2 l[i].value.length c2),.raw (.slice a3 l[i].conds.length c3))::(cA dF 7 (.raw (.slice a X.length c)) (X.map fU)::(X.map (iJ false n)++L))) u3:=
    Ow.pack (L1:=[_,_,_]) ((O3.swap.tail λ_ h=>h.swap).swap.tail λ_ h=>h)
   refine SI (l[i],.raw (.slice a1 l[i].attr.length c1),.raw (.slice a2 l[i].value.length c2),.raw (.slice a3 l[i].conds.length c3)) ⟨rfl,rfl,rfl⟩ (by omega) O4 λb' c' u4 O5=>aw _ _ ⟨X++[(l[i],.raw (.slice a1 l[i].attr.length c1),.raw (.slice a2 l[i].value.length c2),.raw (.slice a3 l[i].conds.length c3))],?_,?_,by simp,O5⟩
   ·rw[map_append,hX,take_add_one,List.getElem?_eq_getElem hi];rfl
   ·intro x hx;rcases List.mem_append.1 hx with h|h
    ·exact hc x h
    ·simp at h;subst h;exact⟨rfl,rfl,rfl⟩
  ·rintro⟨a,m,c⟩ u next ⟨X,hX,hc,rfl,hO⟩
   rw[take_length]at hX;refine ab.f (by simp) ?_;subst hX;have:=hk a c u;rw[length_map]at this;exact this (cZ.shut hc hO)
abbrev qb:TypeId:=43
theorem Ga(l:List cN):∀r∈l.map cN.pv,r.length=19:=Ar (pv:=cN.pv) (λ_=>rfl) l
theorem Nd(l:List cN):aQ (l.map cN.pv).flatten=true:=nC (pv:=cN.pv) (λ_=>rfl) l
theorem K_{L:List aX}{μ:Mem}(hO:Ow L μ)(f:Fl)(l:List cN)(hl:l.length<=1000000){K:Kq}(hk:∀a c μ',Ow (cA qb 19 (.raw (.slice a l.length c)) (l.map cN.pv)::L) μ'->K (.raw (.slice a l.length c)) μ'):aa prog 40 [.list 19 f (l.map cN.pv)] μ K:=by
 refine la.c (WA hO (Ga l) (Nd l) (by simp;omega) (by simp;omega) λa c μ' h=>?_);rw[length_map]at h |-;exact hk a c μ' h
theorem KX{L:List aX}{μ:Mem}(hO:Ow L μ)(fc fa:Fl)(p:Prod)(n:Nat)(hs:ah p.conds<=n)(h6:ah p.conds<=100000)(hl:bW p.conds)(ha:p.bh.length<=1000000){K:Kq}
  (hk:∀a1 c1 a2 c2 μ',Ow (cZ false n p.conds (.raw (.slice a1 p.conds.length c1))::cA qb 19 (.raw (.slice a2 p.bh.length c2)) (p.bh.map cN.pv)::L) μ'->K (.agg [pS p.name,.raw (.slice a1 p.conds.length c1),.raw (.slice a2 p.bh.length c2)]) μ'):
  aa prog 9 [.agg [pS p.name,.list 7 fc (p.conds.map ae.pv),.list 19 fa (p.bh.map cN.pv)]] μ K:=by
 refine n_.c ?_;refine aa.q (K:=λq μ'=>∃a c1,q=.raw (.slice a p.conds.length c1)/\Ow [cZ false n p.conds q] μ') (IE n (L:=[]) trivial fc p.conds hs h6 hl λa c μ' h=>⟨a,c,rfl,h⟩) ?_;rintro q μ1 HR ⟨a1,c1,rfl,O1⟩;refine⟨_,_,_,rfl,?_⟩;refine aa.q (K:=λq μ'=>∃a c1,q=.raw (.slice a p.bh.length c1)/\Ow [cA qb 19 q (p.bh.map cN.pv)] μ') (K_ (L:=[]) trivial fa p.bh ha λa c μ' h=>⟨a,c,rfl,h⟩) ?_;rintro q μ2 Cc ⟨a2,c2,rfl,O2⟩;refine⟨_,_,_,rfl,?_⟩;exact hk a1 c1 a2 c2 _ (Ow.swap ((hO.side HR O1).side Cc O2))
structure Rw(b o sz:Nat)(A:List PV->aX):Prop where
 rd:∀{row:List PV} {L:List aX} {μ:Mem},row.length=sz->Ow (A row::L) μ->∀k m,k+m<=sz->ay μ b (o+k) m=some ((row.drop k).take m)
 st:∀{row:List PV} {L:List aX} {μ:Mem},row.length=sz->Ow (A row::L) μ->∀(k:Nat) (vs:List PV) (K:Mem->Prop),k+vs.length<=sz->(∀μ',Ow (A (dy row k vs)::L) μ'->K μ')->stM b (o+k) vs μ K
theorem Lv{row vs:List PV}{k:Nat}(h:k+vs.length<=row.length):(dy row k vs).length=row.length:=by
 unfold dy;simp only[length_append,length_take,List.length_drop];omega
theorem Rw.vec{e:TypeId}{sz n c b j:Nat}{rows:Lq}(hr:∀r∈rows,r.length=sz)(hj:j<rows.length):Rw b (0+j*sz) sz λrow=>cA e sz (.raw (.slice (some ⟨b,0,none⟩) n c)) (rows.set j row):=by
 have ac8:∀{row:List PV},row.length=sz->∀r∈rows.set j row,r.length=sz:=λhl r h=>by
  rcases List.mem_or_eq_of_mem_set h with h|rfl
  ·exact hr r h
  ·exact hl
 refine⟨λ{row L μ} hl hO k m h=>?_,λ{row L μ} hl hO k vs K h hK=>?_⟩
 ·obtain⟨b',hb,eR,_⟩:=cA.at_ 0 hO rfl (ac8 hl) (j:=j) (by simpa using hj);simp only[Option.some.injEq,Addr.mk.injEq]at hb;obtain⟨rfl,_⟩:=hb;have:=eR k m h;rw[List.getElem_set_self]at this;exact this
 ·obtain⟨b',hb,_,fK⟩:=cA.at_ 0 hO rfl (ac8 hl) (j:=j) (by simpa using hj);simp only[Option.some.injEq,Addr.mk.injEq]at hb;obtain⟨rfl,_⟩:=hb;refine fK k vs K h λμ' h'=>hK μ' ?_;rw[List.getElem_set_self,List.set_set]at h';exact h'
def cE{T:Type}(g:T->T)(X:List T)(i:Nat):List T:=(X.take i).map g++X.drop i
theorem zA{T:Type}(g:T->T)(X:List T):cE g X 0=X:=by simp[cE]
theorem rz{T:Type}(g:T->T)(X:List T):cE g X X.length=X.map g:=by simp[cE]
theorem ru{T:Type}(g:T->T)(X:List T)(i:Nat)(h:i<=X.length):(cE g X i).length=X.length:=by simp[cE];omega
theorem zR{T:Type}{g:T->T}{X:List T}{i:Nat}(h:i<X.length):cE g X i=(X.take i).map g++X[i]::X.drop (i+1):=by rw[cE,List.drop_eq_getElem_cons h]
theorem zQ{T:Type}{g:T->T}{X:List T}{i:Nat}(h:i<X.length):cE g X (i+1)=(X.take i).map g++g X[i]::X.drop (i+1):=by
 rw[cE,take_add_one,List.getElem?_eq_getElem h,map_append];simp
theorem rv{T:Type}{g:T->T}{X:List T}{i:Nat}(h:i<X.length):(cE g X i)[i]?=some X[i]:=by
 rw[zR h,List.getElem?_append_right (by simp;omega)];have:i-((X.take i).map g).length=0:=by simp;omega
 rw[this];rfl
theorem rr{T U:Type}{g:T->T}{f:T->U}{X:List T}{i:Nat}(h:i<X.length):((cE g X i).map f).set i (f (g X[i]))=(cE g X (i+1)).map f:=by
 rw[zR h,zQ h,map_append,map_append,List.set_append_right _ _ (by simp;omega)];congr 1;have:i-(((X.take i).map g).map f).length=0:=by simp;omega
 rw[this];rfl
theorem Hn{r:ByteArray->ByteArray}{g:FuncId}{f b o:Nat}{A:List PV->aX}(hA:Rw b o 7 A){row:List PV}(dS:row.length=7){q:PV}(hf:f+1<=7)(hq:(row.drop f).take 1=[q]){l:List Test}(hl:l.length<=100000)(hg:∀t∈l,Pure prog g [pS t.var] (pS (r t.var))){L:List aX}{u:Mem}(hO:Ow (A row::de false l q::L) u){E:Mem->Prop}(hk:∀u',Ow (A row::de false (l.map (jv r)) q::L) u'->E u'):
  ao (α:=Int) (λYR rQ De=>
    ∃(x27:Option Addr) (abU afW:Nat),ay De b (o+f) 1=some [(.raw (.slice x27 abU afW))]/\
    ab (decide ((rQ:Int)<((abU:Nat):Int)))
    (∃(x35:Option Addr) (abR afT:Nat),ay De b (o+f) 1=some [(.raw (.slice x35 abR afT))]/\
     ∃(x40:Option Addr) (abO afR:Nat),ay De b (o+f) 1=some [(.raw (.slice x40 abO afR))]/\
     bH x40 λPd NY=>
     (0:Int)<=rQ/\rQ<((abO:Nat):Int)/\
     ∃(x44:ByteArray),ay De Pd ((NY+Int.toNat rQ*6)+1) 1=some [(pS x44)]/\
     cV prog g [(pS x44)] De λNm Dd=>
     ∃(x45:ByteArray),Nm=(pS x45)/\
     bH x35 λTy QZ=>
     (0:Int)<=rQ/\rQ<((abR:Nat):Int)/\
     stM Ty ((QZ+Int.toNat rQ*6)+1) [(pS x45)] (Mem.or De Dd) λJg=>
     YR (IntKind.wrap .i64 (rQ+(1))) Jg)
    (E De)) 0 u:=by
 obtain⟨X,rfl,hXc,hO⟩:=de.open_ hO.swap;obtain⟨a,c,rfl⟩:=cA.Cv hO;rw[length_map]at hO hl;have uD:Ow (A row::cA ic 6 (.raw (.slice a X.length c)) ((cE (λx=>(jv r x.1,x.2)) X 0).map lB)::(X.map (oe false)++L)) u:=by rw[zA];exact(hO.tail λ_ h=>h.wZ).swap
 have hq':(row.drop f).take 1=[.raw (.slice a X.length c)]:=by rw[hq,length_map]
 refine ao.each (n:=X.length) (by omega) (λi u=>Ow (A row::cA ic 6 (.raw (.slice a X.length c)) ((cE (λx=>(jv r x.1,x.2)) X i).map lB)::(X.map (oe false)++L)) u) uD ?_ ?_
 ·intro i u next hi hO aw
  have Zk:ay u b (o+f) 1=some [.raw (.slice a X.length c)]:=by rw[hA.rd dS hO f 1 hf,hq']
  have hlen:=ru (λx:Test×PV=>(jv r x.1,x.2)) X i (by omega);obtain⟨b2,rfl,eR,fK⟩:=cA.at_ 1 hO rfl (LD _) (j:=i) (by simpa[hlen]using hi);have Zi:((cE (λx:Test×PV=>(jv r x.1,x.2)) X i).map lB)[i]'(by simpa[hlen]using hi)=lB X[i]:=by
   have:=rv (g:=λx:Test×PV=>(jv r x.1,x.2)) hi;obtain⟨h1,h2⟩:=List.getElem?_eq_some_iff.1 this;rw[getElem_map,h2]
  rw[Zi]at eR fK;refine⟨_,_,_,Zk,ab.t (by simpa using hi) ⟨_,_,_,Zk,_,_,_,Zk,by omega,by omega,_,by rw[Int.toNat_natCast];exact eR 1 1 (by omega),(hg X[i].1 (mem_map.2 ⟨_,getElem_mem hi,rfl⟩)).q ⟨_,rfl,by omega,by omega,?_⟩⟩⟩;rw[Int.toNat_natCast,Mem.mJ];refine fK 1 [pS (r X[i].1.var)] _ (by simp) λu' h'=>aw _ ?_;have e:dy (lB X[i]) 1 [pS (r X[i].1.var)]=lB (jv r X[i].1,X[i].2):=rfl;rw[e,rr (g:=λx:Test×PV=>(jv r x.1,x.2)) (f:=lB) hi]at h';exact h'
 ·intro u next hO
  rw[rz]at hO;refine⟨_,_,_,by rw[hA.rd dS hO f 1 hf,hq'],ab.f (by simp) (hk _ ?_)⟩;have gg:=(hO.swap.tail λ_ h=>Ow.GN h);have e1:X.map (oe false)=(X.map λx=>(jv r x.1,x.2)).map (oe false):=by rw[map_map];rfl
  rw[e1]at gg
  have h3:=de.shut (X:=X.map λx=>(jv r x.1,x.2)) (by
   intro x hx
   obtain⟨y,hy,rfl⟩:=mem_map.1 hx
   exact hXc y hy) gg
  have e2:(X.map λx=>(jv r x.1,x.2)).map (·.1)=(X.map (·.1)).map (jv r):=by rw[map_map,map_map];rfl
  rw[e2]at h3;rw[length_map];exact h3.swap
theorem Tb(r:ByteArray->ByteArray)(x:ae×PV×PV×PV):dy (fU x) 2 [pS (r x.1.id)]=fU (fi r x.1,x.2):=by
 obtain⟨c,x⟩:=x;show[pI c.kind,pB c.goal,pS (r c.id),x.1,x.2.1,pB c.acc,x.2.2]=[pI (fi r c).kind,pB (fi r c).goal,pS (fi r c).id,x.1,x.2.1,pB (fi r c).acc,x.2.2];rw[zD];rfl
theorem aal:∀(n:Nat) {a:Option Addr} {c:Nat} (l:List ae) (hs:ah l<=n) (h6:ah l<=1000) (hl:bW l) {L:List aX} {u:Mem} (hO:Ow (cZ false n l (.raw (.slice a l.length c))::L) u) {K:Kq} (hk:∀u',Ow (cZ false n (l.map (fi dn)) (.raw (.slice a l.length c))::L) u'->K (.aA []) u'),aa prog 10 [.raw (.slice a l.length c)] u K:=by
 intro n;induction n with
 |zero=>
  intro a c l hs h6 hl L u hO K hk;have:l=[]:=by
   cases l with
   |nil=>rfl
   |cons c l=>simp[ah,bN]at hs
  subst this;refine mc.c ?_;exact ao.each (n:=0) (by omega) (λ_ u=>Ow (cZ false 0 [] (.raw (.slice a 0 c))::L) u) hO (λk u next hk=>by omega) λu next hO=>ab.f (by simp) (hk u hO)
 |succ n ih=>
  intro a c l hs h6 hl L u hO K hk;obtain⟨X,rfl,hXc,hO⟩:=cZ.open_ hO;rw[length_map]at hO |-;rw[length_map]at hk;have sF:=c_ (X.map (·.1));rw[length_map]at sF;refine mc.c ?_;let g:ae×PV×PV×PV->ae×PV×PV×PV:=λx=>(fi dn x.1,x.2);have uD:Ow (cA dF 7 (.raw (.slice a X.length c)) ((cE g X 0).map fU)::((cE g X 0).map (iJ false n)++L)) u:=by rw[zA];exact hO
  refine ao.each (n:=X.length) (by omega) (λi u=>Ow (cA dF 7 (.raw (.slice a X.length c)) ((cE g X i).map fU)::((cE g X i).map (iJ false n)++L)) u) uD ?_ ?_
  ·intro i u next hi hO aw
   have hlen:=ru g X i (by omega);have CC:X[i].1∈X.map (·.1):=mem_map.2 ⟨_,getElem_mem hi,rfl⟩;have hm:=et CC;obtain⟨l0,l1,l2,l3,l4,l5⟩:=(bF _).1 (b_.1 hl _ CC);have bG:i<((cE g X i).map fU).length:=by simpa[hlen]using hi
   obtain⟨b2,rfl,_,_⟩:=cA.at_ 0 hO rfl (FT _) (j:=i) bG;have Zi:((cE g X i).map fU)[i]'bG=fU X[i]:=by
    obtain⟨h1,h2⟩:=List.getElem?_eq_some_iff.1 (rv (g:=g) hi);rw[getElem_map,h2]
   have hA:=Rw.vec (e:=dF) (n:=X.length) (c:=c) (b:=b2) (FT (cE g X i)) bG;have gg:Ow ((λrow=>cA dF 7 (.raw (.slice (some ⟨b2,0,none⟩) X.length c)) (((cE g X i).map fU).set i row)) (fU X[i])::de false X[i].1.attr X[i].2.1::de false X[i].1.value X[i].2.2.1::cZ false n X[i].1.conds X[i].2.2.2::((((X.take i).map g).map (iJ false n)++(X.drop (i+1)).map (iJ false n))++L)) u:=by
    show Ow (cA dF 7 _ (((cE g X i).map fU).set i (fU X[i]))::_) u;rw[<- Zi,List.set_getElem_self];have e:(cE g X i).map (iJ false n)=((X.take i).map g).map (iJ false n)++iJ false n X[i]::(X.drop (i+1)).map (iJ false n):=by rw[zR hi,map_append,map_cons]
    rw[e]at hO;have h1:=Ow.pick (P:=[cA dF 7 (.raw (.slice (some ⟨b2,0,none⟩) X.length c)) ((cE g X i).map fU)]) hO;exact h1.swap.tail λ_ h=>Ow.nest h
   refine ab.t (by simpa using hi) ⟨by omega,by omega,?_⟩;simp only[Int.toNat_natCast];refine⟨_,hA.rd rfl gg 2 1 (by omega),(mW _ (by omega)).call ⟨_,rfl,hA.st rfl gg 2 [pS (dn X[i].1.id)] _ (by simp) λu2 O2=>?_⟩⟩;refine Hn (f:=3) hA (Lv (by simp)) (by omega) rfl (by omega) (λt ht=>mW _ (by have:=(l3 t ht).2.1;omega)) O2 λu3 O3=>?_;refine Hn (f:=4) hA (Lv (by simp)) (by omega) rfl (by omega) (λt ht=>mW _ (by have:=(l4 t ht).2.1;omega)) (O3.tail λ_ h=>h.swap) λu4 O4=>?_;obtain⟨a5,c5,hq5⟩:=(Ow.at 3 rfl O4).fact λ_ h=>cZ.raw h;have ag1:=hA.rd (row:=dy (fU X[i]) 2 [pS (dn X[i].1.id)]) rfl O4 6 1 (by omega);have ada:ay u4 b2 (0+i*7+6) 1=some [.raw (.slice a5 X[i].1.conds.length c5)]:=by rw[ag1];show some [X[i].2.2.2]=_;rw[hq5]
   refine⟨_,_,_,ada,?_⟩;have O5:=Ow.at 3 rfl O4;rw[hq5]at O5;refine ih X[i].1.conds (by omega) (by omega) l5 O5 λu5 O6=>⟨rfl,aw _ ?_⟩;have dS:((cE g X i).map fU).set i (dy (fU X[i]) 2 [pS (dn X[i].1.id)])=(cE g X (i+1)).map fU:=by
    rw[Tb];exact rr (g:=g) (f:=fU) hi
   have ag_:Ow (iJ false n (g X[i])::([cA dF 7 (.raw (.slice (some ⟨b2,0,none⟩) X.length c)) ((cE g X (i+1)).map fU)]++((((X.take i).map g).map (iJ false n)++(X.drop (i+1)).map (iJ false n))++L))) u5:=by
    have h1:Ow (cA dF 7 (.raw (.slice (some ⟨b2,0,none⟩) X.length c)) ((cE g X (i+1)).map fU)::de false (X[i].1.attr.map (jv dn)) X[i].2.1::de false (X[i].1.value.map (jv dn)) X[i].2.2.1::cZ false n (X[i].1.conds.map (fi dn)) X[i].2.2.2::((((X.take i).map g).map (iJ false n)++(X.drop (i+1)).map (iJ false n))++L)) u5:=by
     rw[<- dS,hq5];exact(O6.swap.tail λ_ h=>h.swap.tail λ_ h=>h.swap).tail λ_ h=>h.swap
    refine Ow.swap ?_;refine h1.tail λν hν=>?_;have h2:=Ow.pack (L1:=[de false (X[i].1.attr.map (jv dn)) X[i].2.1,de false (X[i].1.value.map (jv dn)) X[i].2.2.1,cZ false n (X[i].1.conds.map (fi dn)) X[i].2.2.2]) hν;refine h2.imp λκ hκ=>?_;show Ow [de false (fi dn X[i].1).attr X[i].2.1,de false (fi dn X[i].1).value X[i].2.2.1,cZ false n (fi dn X[i].1).conds X[i].2.2.2] κ;rw[zD];exact hκ
   have e2:(cE g X (i+1)).map (iJ false n)=((X.take i).map g).map (iJ false n)++iJ false n (g X[i])::(X.drop (i+1)).map (iJ false n):=by rw[zQ hi,map_append,map_cons]
   rw[e2];exact Ow.qa (P:=[cA dF 7 (.raw (.slice (some ⟨b2,0,none⟩) X.length c)) ((cE g X (i+1)).map fU)]) ag_
  ·intro u next hO
   rw[rz]at hO;refine ab.f (by simp) (hk u ?_)
   have h3:=cZ.shut (X:=X.map g) (λx hx=>by
    obtain⟨y,hy,rfl⟩:=mem_map.1 hx
    exact hXc y hy) hO
   have e2:(X.map g).map (·.1)=(X.map (·.1)).map (fi dn):=by rw[map_map,map_map];rfl
   rw[e2]at h3;exact h3
theorem NQ(r:ByteArray->ByteArray)(hr:∀s,(r s).size=s.size):∀c,cU c->cU (fi r c):=by
 intro c;induction c using ae.ind with
 |h c ih=>
  intro h;obtain⟨h0,h1,h2,h3,h4,h5⟩:=(bF _).1 h;rw[zD];refine(bF _).2 ⟨by show(r c.id).size<=100;rw[hr];exact h0,by show(c.attr.map (jv r)).length<=40;rw[length_map];exact h1,by show(c.value.map (jv r)).length<=40;rw[length_map];exact h2,?_,?_,?_⟩
  ·intro t ht;obtain⟨t',wB,rfl⟩:=mem_map.1 ht;obtain⟨a,b,d⟩:=h3 t' wB;exact⟨a,by show(r t'.var).size<=100;rw[hr];exact b,d⟩
  ·intro t ht;obtain⟨t',wB,rfl⟩:=mem_map.1 ht;obtain⟨a,b,d⟩:=h4 t' wB;exact⟨a,by show(r t'.var).size<=100;rw[hr];exact b,d⟩
  ·refine b_.2 λd hd=>?_;obtain⟨d',PL,rfl⟩:=mem_map.1 hd;exact ih d' PL (b_.1 h5 d' PL)
theorem JO(r:ByteArray->ByteArray)(hr:∀s,(r s).size=s.size){l:List ae}(h:bW l):bW (l.map (fi r)):=b_.2 λd hd=>by
 obtain⟨d',PL,rfl⟩:=mem_map.1 hd;exact NQ r hr d' (b_.1 h d' PL)
theorem Va{v:ByteArray}(h:nm v):v.size<=1000000:=by
 rcases h with rfl|h
 ·decide
 ·unfold eP mC at h;simp only[Bool.and_eq_true,decide_eq_true_eq]at h;have:=h.2.1;rw[xO]at this;omega
theorem aa.aed{P:Program}{g:FuncId}{args sL:List PV}{μ:Mem}{K:Kq}(h:aa P g sL M0 K)(hl:args.length=sL.length)(hb:∀(i:Nat) p q,args[i]?=some p->sL[i]?=some q->gf μ p q/\q.ok=true):aa P g args μ K:=λZ u vs hg hw ha=>by
 have ha':bp (iL Z u μ) sL vs:=⟨ha.1.trans hl,λi q v hq hv=>by
  have bG:i<args.length:=by rw[hl];exact(List.getElem?_eq_some_iff.1 hq).1
  have hp:args[i]?=some args[i]:=List.getElem?_eq_getElem bG
  obtain⟨h1,h2⟩:=hb i _ q hp hq
  exact⟨h2,h1.rep hg (ha.2 i _ v hp hv).2⟩⟩
 obtain⟨hc,F,hF,dr⟩:=h (iL Z u μ) u vs ⟨qZ hg,λb o h=>by cases h⟩ hw ha';refine⟨hc,F,hF,dr.mono λv lo w' hm Zx hp=>?_⟩;obtain⟨Z',μ',p,e,g',hr,hK⟩:=hp;have e0:Ext Z μ u.heap.size (iL Z u μ) M0:=by
  refine⟨gG hg,λb C hC hn=>?_,λb hb=>?_,λb hb=>absurd rfl hb,λ_ h'=>hg.Cy h'⟩
  ·rw[gF hn];exact hC
  ·cases hx:μ b with
   |none=>rw[gF hx]at hb;exact .inl hb
   |some o=>exact .inr (.inl (by simp))
 exact⟨Z',μ',p,e0.trans e (Nat.le_refl _),g',hr,hK⟩
theorem Rf(l:List Mt):∀r∈l.map Mt.pv,r.length=2:=λr hr=>by obtain⟨x,_,rfl⟩:=mem_map.1 hr;rfl
theorem YV(l:List Mt):aQ (l.map Mt.pv).flatten=true:=nC (pv:=Mt.pv) (λ_=>rfl) l
theorem Wn{fn:Fn}{a b:List PV}{A:aX}{l:List Mt}(hs:Gf prog (.fn fn a b) (l.map λm=>[.agg m.pv]) A)(hl:l.length<=1000000){L:List aX}{μ:Mem}(hO:Ow (A::L) μ){K:Kq}(hk:∀a c μ',Ow (cA 57 2 (.raw (.slice a l.length c)) (l.map Mt.pv)::A::L) μ'->K (.raw (.slice a l.length c)) μ'):
  aa prog 13 [.fn fn a b] μ K:=by
 refine kj.c λb3 DU=>?_;have O1:=cA.nil 57 2 (hO.new 54 [pV none 0 0] DU);refine bu.acB hs (Ow.ord [2] O1) (λk u=>∃a c,Ow (cA 57 2 (.raw (.slice a k c)) ((l.take k).map Mt.pv)::Pt b3 54 [.raw (.slice a k c)]::L) u) (λ_ _=>False) (λk=>eJ.ex λ_=>eJ.ex λ_=>eJ.own _) (λ_ _ _ _ h=>h.elim) (λμ' h'=>⟨none,0,h'⟩) ?_ ?_ (λc u h=>?_)
 ·rintro k eT u R ⟨a1,c1,h2⟩ bX _;have cj:k<l.length:=by simpa using eT
  rw[getElem_map];refine⟨_,_,_,rfl,_,_,_,h2.rd 1 rfl (by simp),?_⟩;have hlen:((l.take k).map Mt.pv).length=k:=by rw[length_map,length_take];omega
  obtain⟨a',c',e,jf⟩:=cA.app h2 (Rf _);rw[hlen]at e jf;simp only[PV.raw.injEq,Value.slice.injEq]at e;obtain⟨rfl,_,rfl⟩:=e;refine jf _ _ _ rfl rfl (by omega) (by omega) λb2 c2 u3 h3=>?_;refine h3.st 1 rfl (by simp) λu4 h4=>bX _ ⟨some ⟨b2,0,none⟩,c2,?_⟩;rw[eV cj];exact h4
 ·intro u h;rw[length_map]at h;obtain⟨a1,h⟩:=Ow.ex (Ow.swap h);obtain⟨c1,h⟩:=Ow.ex h;have h2:Ow (A::cA 57 2 (.raw (.slice a1 l.length c1)) ((l.take l.length).map Mt.pv)::Pt b3 54 [.raw (.slice a1 l.length c1)]::L) u:=(Ow.swap h).tail λ_ h=>h.US;rw[take_length]at h2;dsimp only[PK];refine⟨_,_,_,h2.rd 2 rfl (by simp),hk a1 c1 u ?_⟩;exact(Ow.swap h2).tail λ_ h=>h.tail λ_ h=>h.drop
 ·obtain⟨_,_,_,_,_,_,_,_,_,h,_⟩:=h;exact h.elim
def gI(s:ByteArray)(p:Prod):Prod:={p with name:=s}
theorem Rk{es:List aj}(hn:HB es)(p:Prod)(hl:tu p.conds)(s t:ByteArray):(jz es (gI s p)).map (λm=>(⟨t,m.tags⟩:Mt))=jz es (gI t (Ct dn p)):=by
 unfold jz;have h:=NI Ve hn hl;rw[map_map];show((gH (az es p.conds)).map λt'=>(⟨t,t'.tags⟩:Mt))=((gH (az es (p.conds.map (fi dn)))).map λt'=>(⟨t,t'.tags⟩:Mt));have e:∀l:List bR,(l.map λt'=>(⟨t,t'.tags⟩:Mt))=(l.map bR.tags).map λg=>⟨t,g⟩:=λl=>by rw[map_map];rfl
 rw[e,e,h]
theorem KQ(p:Prod)(es:List aj)(_:(∀s∈es,True)/\es.length<=maxLen):Pure prog 3 [.agg p.pv,.list 12 .sh (es.map aj.pv)] (pB true):=by
 refine av.of (nY.c ?_);refine⟨λs u=>s=false->Kf p/\es.length<=30,?_,?_⟩
 ·refine(aax .sh .sh p).call ?_;rintro _ ⟨q,rfl,hq⟩;refine⟨_,rfl,ab.mk (λh h'=>by cases h') (λh=>?_)⟩;refine(Wo .sh es 30 (by omega)).call ?_;rintro _ ⟨q2,rfl,TZ⟩;exact⟨_,rfl,λh'=>⟨hq h,TZ (by simpa using h')⟩⟩
 rintro b u Kl;refine ab.mk (λ_=>zw u) (λhf=>?_);obtain⟨⟨hl,hs,ha,_⟩,he⟩:=Kl hf;have Xt:Ro p:=⟨hl,by omega,by omega⟩;refine(MQ .sh .sh p hl (by omega) (by omega)).call ⟨_,_,rfl,ab.mk (λ_=>zw _) (λhc=>?_)⟩;have hck:(bQ p).2.1=0:=by simpa using hc
 have PA:=(xG hck).1;obtain⟨hnc,hac⟩:=NL PA;refine KX (L:=[]) trivial .sh .sh p 100 (by omega) (by omega) hl (by omega) λa1 c1 a2 c2 u1 O1=>⟨_,_,_,_,_,_,_,rfl,?_⟩;refine aal 100 p.conds (by omega) (by omega) hl O1 λu2 O2=>⟨rfl,?_⟩;have O3:Ow [cA qb 19 (.raw (.slice a2 p.bh.length c2)) ((cE (za dn) p.bh 0).map cN.pv),cZ false 100 (p.conds.map (fi dn)) (.raw (.slice a1 p.conds.length c1))] u2:=by rw[zA];exact O2.swap
 refine ao.each (n:=p.bh.length) (by omega) (λi u=>Ow [cA qb 19 (.raw (.slice a2 p.bh.length c2)) ((cE (za dn) p.bh i).map cN.pv),cZ false 100 (p.conds.map (fi dn)) (.raw (.slice a1 p.conds.length c1))] u) O3 ?_ ?_
 ·intro i u next hi hO aw
  have hlen:=ru (za dn) p.bh i (by omega);have bG:i<((cE (za dn) p.bh i).map cN.pv).length:=by simpa[hlen]using hi
  obtain⟨b2,rfl,_,_⟩:=cA.at_ 0 hO rfl (Ga _) (j:=i) bG;have Zi:((cE (za dn) p.bh i).map cN.pv)[i]'bG=p.bh[i].pv:=by
   obtain⟨h1,h2⟩:=List.getElem?_eq_some_iff.1 (rv (g:=za dn) hi);rw[getElem_map,h2]
  have hA:=Rw.vec (e:=qb) (n:=p.bh.length) (c:=c2) (b:=b2) (Ga (cE (za dn) p.bh i)) bG;have gg:Ow ((λrow=>cA qb 19 (.raw (.slice (some ⟨b2,0,none⟩) p.bh.length c2)) (((cE (za dn) p.bh i).map cN.pv).set i row)) p.bh[i].pv::[cZ false 100 (p.conds.map (fi dn)) (.raw (.slice a1 p.conds.length c1))]) u:=by
   show Ow (cA qb 19 _ (((cE (za dn) p.bh i).map cN.pv).set i p.bh[i].pv)::_) u;rw[<- Zi,List.set_getElem_self];exact hO
  obtain⟨n1,n2,n3,n4,n5⟩:=hac _ (getElem_mem hi);have big:∀{v:ByteArray},nm v->v.size<=1000000000:=λh=>by have:=Va h;omega
  refine ab.t (by simpa using hi) ⟨by omega,by omega,?_⟩;simp only[Int.toNat_natCast];refine⟨_,hA.rd rfl gg 0 1 (by omega),(mW _ (big n1)).call ⟨_,rfl,hA.st rfl gg 0 [pS (dn p.bh[i].id)] _ (by simp) λv1 P1=>?_⟩⟩;refine⟨_,hA.rd rfl P1 1 1 (by omega),_,hA.rd rfl P1 6 1 (by omega),_,hA.rd rfl P1 10 1 (by omega),_,hA.rd rfl P1 15 1 (by omega),?_⟩;refine(mW _ (big n2)).q ⟨_,rfl,?_⟩;rw[Mem.mJ];refine(mW _ (big n3)).q ⟨_,rfl,?_⟩;rw[Mem.mJ];refine(mW _ (big n4)).q ⟨_,rfl,?_⟩;rw[Mem.mJ];refine(mW _ (big n5)).call ⟨_,rfl,hA.st rfl P1 1 [pS (dn p.bh[i].attr.var)] _ (by simp) λv2 P2=>?_⟩;refine hA.st rfl P2 6 [pS (dn p.bh[i].value.a.var)] _ (by simp) λv3 P3=>?_;refine hA.st rfl P3 10 [pS (dn p.bh[i].value.b.var)] _ (by simp) λv4 P4=>?_;refine hA.st rfl P4 15 [pS (dn p.bh[i].other.var)] _ (by simp) λv5 P5=>aw _ ?_;rw[<- rr (g:=za dn) (f:=cN.pv) hi];exact P5
 ·intro u next hO
  rw[rz]at hO;refine ab.f (by simp) ((BD .sh .sh p Xt).call ⟨_,_,_,_,_,rfl,λb6 CI=>?_⟩);have O4:=hO.new 25 [pS ⟨#[97]⟩,.list 7 .sh (p.conds.map ae.pv),.list 19 .sh (p.bh.map cN.pv),pS ⟨#[98]⟩,.raw (.slice a1 p.conds.length c1),.raw (.slice a2 p.bh.length c2)] CI
  have vu:Mj [gI ⟨#[97]⟩ p,gI ⟨#[98]⟩ (Ct dn p)] 2:=⟨by simp,λq hq=>by
   simp only[mem_cons,List.not_mem_nil,or_false]at hq
   rcases hq with rfl|rfl
   ·exact Xt
   ·refine⟨JO dn Oc hl,?_,?_⟩
    ·show ah (p.conds.map (fi dn))<=_;rw[<- EM,wM];omega
    ·show(p.bh.map (za dn)).length<=_;rw[length_map];omega⟩
  have ahL:∀(i:Nat) x y,[PV.raw (.slice (some ⟨b6,0,none⟩) 2 2),.list 12 .sh (es.map aj.pv)][i]?=some x->[PV.list 3 .sh ([gI ⟨#[97]⟩ p,gI ⟨#[98]⟩ (Ct dn p)].map Prod.pv),.list 12 .sh (es.map aj.pv)][i]?=some y->gf (u.set b6 _) x y/\y.ok=true:=λi x y hx hy=>by
   match i with
   |0=>
    simp only[getElem?_cons_zero,Option.some.injEq]at hx hy;subst hx hy;obtain⟨ν1,t1,i1⟩:=(Ow.ord [2] O4).mem _ (mem_cons_self ..);refine⟨gf.lst b6 0 2 3 ([gI ⟨#[97]⟩ p,gI ⟨#[98]⟩ (Ct dn p)].map Prod.pv) _ (by simp) (λr hr=>by simp at hr;rcases hr with rfl|rfl<;>rfl) rfl (O4.rd 0 rfl (by simp)) λj c d hc hd=>?_,rfl⟩
    match j with
    |0=>simp at hc hd;subst hc hd;exact .same _
    |1=>simp at hc hd;subst hc hd;exact .same _
    |2=>simp at hc hd;subst hc hd;exact .same _
    |3=>simp at hc hd;subst hc hd;exact .same _
    |4=>simp at hc hd;subst hc hd;exact t1.view i1
    |5=>simp at hc hd;subst hc hd;exact cA.view 1 O4 rfl (Ga _) (Nd _)
    |j+6=>simp at hc
   |1=>simp only[getElem?_cons_zero,List.getElem?_cons_succ,Option.some.injEq]at hx hy;subst hx hy;exact⟨.same _,rfl⟩
   |i+2=>simp at hx
  refine aa.aed (Ws (ps:=[gI ⟨#[97]⟩ p,gI ⟨#[98]⟩ (Ct dn p)]) .sh .sh (by omega) vu es (by omega) (L:=[]) trivial λn r x pq rS y u1 hT hM ht PI jV hb h1=>?_) rfl ahL;refine⟨_,_,rfl,ab.f rfl ?_⟩;obtain⟨f,h3⟩:=cw.open_ (Ow.swap h1);refine⟨_,_,h3.rd 0 rfl (by simp),ab.mk (λ_=>zw _) (λh2=>?_)⟩;have h2:rS.length=2:=by simp only[length_map,hb.ps,bne_eq_false_iff_eq]at h2;omega
  obtain⟨pH,hM1,hu,hup,ag7,_⟩:=ko.facts h1;have aZ:=Ly hu;have fT:=Yk (No hup) (by simp;omega) jV;have hp1:=fT (gI ⟨#[97]⟩ p) (by simp);have hp2:=fT (gI ⟨#[98]⟩ (Ct dn p)) (by simp);have Kw:aL bE jQ ⟨#[97]⟩ rS=some (gI ⟨#[97]⟩ p):=(a_ cy hup).2 ⟨hp1,rfl⟩;have hg2:aL bE jQ ⟨#[98]⟩ rS=some (gI ⟨#[98]⟩ (Ct dn p)):=(a_ cy hup).2 ⟨hp2,rfl⟩;have oK:(jz pq (gI ⟨#[97]⟩ p)).length<=1000000:=by
   rw[HH aZ];have:(az pq (gI ⟨#[97]⟩ p).conds).length<=cW pq rS:=by
    unfold cW;exact Kg (λq:Prod=>(az pq q.conds).length) hp1
   omega
  have htg:∀m∈jz pq (gI ⟨#[97]⟩ p),m.tags.length<=1000000000:=λm hm=>Pg aZ ag7 m (List.mem_flatMap.2 ⟨_,hp1,hm⟩);have heq:(jz pq (gI ⟨#[97]⟩ p)).map (λm=>(⟨⟨#[98]⟩,m.tags⟩:Mt))=jz pq (gI ⟨#[98]⟩ (Ct dn p)):=Rk aZ p hnc _ _;refine(aeo n _).call ⟨_,_,_,rfl,?_⟩;have Ze:=Qw (n:=n) (x:=x) (es:=pq) (ps:=rS) (w:=20) (by omega) ⟨#[97]⟩;rw[QY Kw]at Ze;generalize jz pq (gI ⟨#[97]⟩ p)=M at oK htg heq Ze;refine Wn Ze oK h1 λa9 c9 u2 h4=>⟨_,_,_,rfl,?_⟩;refine(aeo n _).call ⟨_,_,_,rfl,aiA (by omega) _ (Ow.ord [1] h4) λf2 u3 h5=>⟨_,_,rfl,?_⟩⟩;rw[QY hg2];generalize hg:(λm:Mt=>(⟨⟨#[98]⟩,m.tags⟩:Mt))=g at heq;have h6:Ow (cA 57 2 (.raw (.slice a9 M.length c9)) ((cE g M 0).map Mt.pv)::ko n x pq rS 20::cw r y::[]) u3:=by rw[zA];exact Ow.ord [1] h5
  refine ao.each (n:=M.length) (by omega) (λi u=>Ow (cA 57 2 (.raw (.slice a9 M.length c9)) ((cE g M i).map Mt.pv)::ko n x pq rS 20::cw r y::[]) u) h6 ?_ ?_
  ·intro i u4 Rd hi h7 Ks;have hlen:=ru g M i (by omega);have bG:i<((cE g M i).map Mt.pv).length:=by simpa[hlen]using hi
   obtain⟨b8,e8,_,fK⟩:=cA.at_ 0 h7 rfl (Rf _) (j:=i) bG;have Zi:((cE g M i).map Mt.pv)[i]'bG=M[i].pv:=by
    obtain⟨h1,h2⟩:=List.getElem?_eq_some_iff.1 (rv (g:=g) hi);rw[getElem_map,h2]
   subst e8;refine ab.t (by simpa using hi) ⟨by omega,by omega,?_⟩;rw[Int.toNat_natCast];refine fK 0 [pS ⟨#[98]⟩] _ (by simp) λu5 h8=>Ks _ ?_;rw[<- rr (g:=g) (f:=Mt.pv) hi];rw[Zi]at h8;have eg:(g M[i]).pv=dy M[i].pv 0 [pS ⟨#[98]⟩]:=by rw[<- hg];rfl
   rw[eg];exact h8
  ·intro u4 Rd h7;rw[rz]at h7;refine ab.f (by simp) ?_;refine aa.view (sL:=[.list 2 .sh ((M.map g).map Mt.pv),.list 2 f2 ((jz pq (gI ⟨#[98]⟩ (Ct dn p))).map Mt.pv)]) (QF .sh f2 (M.map g) (jz pq (gI ⟨#[98]⟩ (Ct dn p))) (by rw[length_map];omega) (λm hm=>by obtain⟨m',h',rfl⟩:=mem_map.1 hm;rw[<- hg];exact htg m' h')) rfl (λi p q hp hq=>?_) (λp ⟨q,e,_⟩=>by rw[e];rfl) ?_
   ·match i with
    |0=>
     simp only[getElem?_cons_zero,Option.some.injEq]at hp hq;subst hp hq;refine⟨?_,rfl⟩;exact cA.view 0 h7 rfl (Rf _) (YV _)
    |1=>simp only[getElem?_cons_zero,List.getElem?_cons_succ,Option.some.injEq]at hp hq;subst hp hq;exact⟨.same _,rfl⟩
    |i+2=>simp at hp
   ·rintro _ ⟨q,rfl,hq⟩;obtain rfl:q=true:=hq.2 heq;exact⟨_,rfl,ab.t rfl (zw _)⟩
set_option maxRecDepth 100000
theorem UM:ownKnob prog.godebug=none:=by kernel_rfl
theorem Hr:laidOutB prog=true:=by kernel_rfl
section
variable {w:World}
theorem zZ:prog.cellsOf 3=1:=by kernel_rfl
theorem EC:prog.cellsOf 4=1:=by kernel_rfl
theorem nA:prog.cellsOf 9=1:=by kernel_rfl
theorem zY:prog.cellsOf 37=3:=by kernel_rfl
theorem Yn:prog.cellsOf 100=1:=by kernel_rfl
theorem Qg:prog.cellsOf 102=6:=by kernel_rfl
theorem LF:prog.cellsOf 80=1:=by kernel_rfl
theorem JB:prog.cellsOf 84=7:=by kernel_rfl
theorem LG:prog.cellsOf 22=1:=by kernel_rfl
theorem Du(n:Nat)(cs:List Value)(h:Reads prog w n 37 cs):∃s:Sym,bq (jF w) s.pv cs/\True:=by
 obtain⟨m,rfl,hl,hf⟩:=h.struct underlying37;rw[zY]at hl;obtain⟨i0,e0,_⟩:=(gO hf 0 0 zZ rfl rfl rfl).JV underlying3;obtain⟨i1,e1,_⟩:=(gO hf 1 1 nA rfl rfl rfl).NV underlying9;obtain⟨i2,e2,_⟩:=(gO hf 2 2 zZ rfl rfl rfl).JV underlying3
 match cs,hl with
 |[x0,x1,x2],_=>exact⟨⟨_,_,_⟩,(e0.append e1).append e2,trivial⟩
theorem Yz(n:Nat)(cs:List Value)(h:Reads prog w n 100 cs):∃l:List Sym,bq (jF w) [.list 3 .sh (l.map Sym.pv)] cs/\(∀s∈l,True)/\l.length<=maxLen:=
 h.Dy underlying100 zY (by omega) λm cs _ hr=>Du m cs hr
theorem Yx(n:Nat)(cs:List Value)(h:Reads prog w n 102 cs):∃t:Test,bq (jF w) t.pv cs/\True:=by
 obtain⟨m,rfl,hl,hf⟩:=h.struct underlying102;rw[Qg]at hl;obtain⟨i0,e0,_⟩:=(gO hf 0 0 zZ rfl rfl rfl).JV underlying3;obtain⟨i1,e1,_⟩:=(gO hf 1 1 nA rfl rfl rfl).NV underlying9;obtain⟨s,e2,_⟩:=Du _ _ (gO hf 2 2 zY rfl rfl rfl);obtain⟨l,e3,_⟩:=Yz _ _ (gO hf 3 5 Yn rfl rfl rfl)
 match cs,hl with
 |[x0,x1,x2,x3,x4,x5],_=>exact⟨⟨_,_,s,l⟩,((e0.append e1).append e2).append e3,trivial⟩
theorem LQ(n:Nat)(cs:List Value)(h:Reads prog w n 80 cs):∃l:List Test,bq (jF w) [.list 6 .sh (l.map Test.pv)] cs/\(∀s∈l,True)/\l.length<=maxLen:=
 h.Dy underlying80 Qg (by omega) λm cs _ hr=>Yx m cs hr
theorem YE:∀(n:Nat) (cs:List Value),Reads prog w n 84 cs->∃c:ae,bq (jF w) c.pv cs/\True:=by
 intro n;induction n using Nat.strongRecOn with
 |ind n ih=>
  intro cs h;obtain⟨m,rfl,hl,hf⟩:=h.struct underlying84;rw[JB]at hl;obtain⟨i0,e0,_⟩:=(gO hf 0 0 zZ rfl rfl rfl).JV underlying3;obtain⟨i1,e1⟩:=(gO hf 1 1 EC rfl rfl rfl).pbool underlying4;obtain⟨i2,e2,_⟩:=(gO hf 2 2 nA rfl rfl rfl).NV underlying9;obtain⟨a3,e3,_⟩:=LQ _ _ (gO hf 3 3 LF rfl rfl rfl);obtain⟨a4,e4,_⟩:=LQ _ _ (gO hf 4 4 LF rfl rfl rfl);obtain⟨i5,e5⟩:=(gO hf 5 5 EC rfl rfl rfl).pbool underlying4;obtain⟨l,e6,_⟩:=(gO hf 6 6 LG rfl rfl rfl).Dy (pv:=ae.pv) (Q:=λ_=>True) underlying22 JB (by omega) λm' OR hm hr=>ih m' (by omega) OR hr
  match cs,hl with
  |[x0,x1,x2,x3,x4,x5,x6],_=>
   refine⟨.mk i0 i1 i2 a3 a4 i5 l,?_,trivial⟩;rw[ae.cG];exact(((((e0.append e1).append e2).append e3).append e4).append e5).append e6
theorem UK(n:Nat)(cs:List Value)(h:Reads prog w n 22 cs):∃l:List ae,bq (jF w) [.list 7 .sh (l.map ae.pv)] cs/\(∀s∈l,True)/\l.length<=maxLen:=
 h.Dy underlying22 JB (by omega) λm cs _ hr=>YE m cs hr
end
section
variable {w:World}
theorem z_:prog.cellsOf 39=4:=by kernel_rfl
theorem Qh:prog.cellsOf 41=9:=by kernel_rfl
theorem Qj:prog.cellsOf 43=19:=by kernel_rfl
theorem Ur:prog.cellsOf 23=1:=by kernel_rfl
theorem Yo:prog.cellsOf 25=3:=by kernel_rfl
theorem EO(n:Nat)(cs:List Value)(h:Reads prog w n 39 cs):∃s:Atom,bq (jF w) s.pv cs/\True:=by
 obtain⟨m,rfl,hl,hf⟩:=h.struct underlying39;rw[z_]at hl;obtain⟨i0,e0,_⟩:=(gO hf 0 0 nA rfl rfl rfl).NV underlying9;obtain⟨s,e1,_⟩:=Du _ _ (gO hf 1 1 zY rfl rfl rfl)
 match cs,hl with
 |[x0,x1,x2,x3],_=>exact⟨⟨_,s⟩,e0.append e1,trivial⟩
theorem Yy(n:Nat)(cs:List Value)(h:Reads prog w n 41 cs):∃s:Term,bq (jF w) s.pv cs/\True:=by
 obtain⟨m,rfl,hl,hf⟩:=h.struct underlying41;rw[Qh]at hl;obtain⟨i0,e0,_⟩:=(gO hf 0 0 zZ rfl rfl rfl).JV underlying3;obtain⟨a,e1,_⟩:=EO _ _ (gO hf 1 1 z_ rfl rfl rfl);obtain⟨b,e2,_⟩:=EO _ _ (gO hf 2 5 z_ rfl rfl rfl)
 match cs,hl with
 |[x0,x1,x2,x3,x4,x5,x6,x7,x8],_=>exact⟨⟨_,a,b⟩,(e0.append e1).append e2,trivial⟩
theorem YF(n:Nat)(cs:List Value)(h:Reads prog w n 43 cs):∃s:cN,bq (jF w) s.pv cs/\True:=by
 obtain⟨m,rfl,hl,hf⟩:=h.struct underlying43;rw[Qj]at hl;obtain⟨i0,e0,_⟩:=(gO hf 0 0 nA rfl rfl rfl).NV underlying9;obtain⟨a,e1,_⟩:=EO _ _ (gO hf 1 1 z_ rfl rfl rfl);obtain⟨t,e2,_⟩:=Yy _ _ (gO hf 2 5 Qh rfl rfl rfl);obtain⟨i3,e3,_⟩:=(gO hf 3 14 zZ rfl rfl rfl).JV underlying3;obtain⟨o,e4,_⟩:=EO _ _ (gO hf 4 15 z_ rfl rfl rfl)
 match cs,hl with
 |[x0,x1,x2,x3,x4,x5,x6,x7,x8,x9,x10,x11,x12,x13,x14,x15,x16,x17,x18],_=>exact⟨⟨_,a,t,_,o⟩,(((e0.append e1).append e2).append e3).append e4,trivial⟩
theorem YA(n:Nat)(cs:List Value)(h:Reads prog w n 25 cs):∃p:aO.Prod,bq (jF w) p.pv cs/\True:=by
 obtain⟨m,rfl,hl,hf⟩:=h.struct underlying25;rw[Yo]at hl;obtain⟨i0,e0,_⟩:=(gO hf 0 0 nA rfl rfl rfl).NV underlying9;obtain⟨c,e1,_⟩:=UK _ _ (gO hf 1 1 LG rfl rfl rfl);obtain⟨a,e2,_⟩:=(gO hf 2 2 Ur rfl rfl rfl).Dy (pv:=cN.pv) (Q:=λ_=>True) underlying23 Qj (by omega) λm' OR hm hr=>YF m' OR hr
 match cs,hl with
 |[x0,x1,x2],_=>exact⟨⟨_,c,a⟩,(e0.append e1).append e2,trivial⟩
end
section
variable {w:World}
theorem Qi:prog.cellsOf 88=12:=by kernel_rfl
theorem YD(n:Nat)(cs:List Value)(h:Reads prog w n 88 cs):∃s:aj,bq (jF w) s.pv cs/\True:=by
 obtain⟨m,rfl,hl,hf⟩:=h.struct underlying88;rw[Qi]at hl;obtain⟨a,e0,_⟩:=Du _ _ (gO hf 0 0 zY rfl rfl rfl);obtain⟨b,e1,_⟩:=Du _ _ (gO hf 1 3 zY rfl rfl rfl);obtain⟨c,e2,_⟩:=Du _ _ (gO hf 2 6 zY rfl rfl rfl);obtain⟨i3,e3⟩:=(gO hf 3 9 EC rfl rfl rfl).pbool underlying4;obtain⟨i4,e4⟩:=(gO hf 4 10 EC rfl rfl rfl).pbool underlying4;obtain⟨i5,e5,_⟩:=(gO hf 5 11 zZ rfl rfl rfl).JV underlying3
 match cs,hl with
 |[x0,x1,x2,x3,x4,x5,x6,x7,x8,x9,x10,x11],_=>exact⟨⟨a,b,c,_,_,_⟩,((((e0.append e1).append e2).append e3).append e4).append e5,trivial⟩
end
end Go.Proofs.YthaeiehophlooaaGreat
