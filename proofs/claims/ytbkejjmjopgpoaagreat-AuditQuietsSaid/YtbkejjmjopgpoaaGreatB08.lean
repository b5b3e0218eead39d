import Derived.Test.YtbkejjmjopgpoaaGreatB07
import Derived.Test.YtbkejjmjopgpoaaGreatProg
set_option linter.all false
namespace Go.az.Xv
open Go.RowKit Go.az
theorem Rl.func{β:aU}{g:FuncId}{a c:List PV}{q:PV}(h:Rl β (.fn (.func g) a c) q):∃b d,q=.fn (.func g) b d/\bq β a b/\bq β c d:=by
 cases h with
 |fn f g' a b c d hf h1 h2 ha hc=>cases hf;exact⟨b,d,rfl,⟨h1,ha⟩,⟨h2,hc⟩⟩
theorem gA.round{β:aU}{s:XS}{p:bn}(h:gA β s p):gA β ⟨s.fr.map unbox,[]⟩ ⟨qW p.σ,[]⟩:=by
 refine⟨λt=>?_,rfl⟩
 have hv:=h.1 t
 have e:gt ⟨s.fr.map unbox,[]⟩ t=match s.fr.get t with|some v=>unbox v|none=>.aC []:=by
  show(Option.rec (.aC []) (λv=>v) ((s.fr.map unbox).get t):PV)=_
  rw[Tr.get_map]
  cases s.fr.get t<;>rfl
 have e':gt s t=match s.fr.get t with|some v=>v|none=>.aC []:=by
  show(Option.rec (.aC []) (λv=>v) (s.fr.get t):PV)=_
  cases s.fr.get t<;>rfl
 rw[e]
 rw[e']at hv
 show Rl β _ (qW p.σ t)
 unfold qW
 generalize p.σ t=q at hv |-
 cases hg:s.fr.get t with
 |none=>
  rw[hg]at hv
  cases hv with
  |aC _ b h1 ha=>exact .aC _ b h1 ha
 |some v=>
  rw[hg]at hv
  dsimp only at hv |-
  cases hv with
  |raw a b h=>exact .raw a b h
  |fn f g a b c d hf h1 h2 ha hc=>exact .fn f g a b c d hf h1 h2 ha hc
  |agg a b h1 ha=>exact .agg a b h1 ha
  |aC a b h1 ha=>exact .aC a b h1 ha
  |iface t p q h=>exact .iface t p q h
  |box k o=>exact .au _
  |au p=>exact .au _
theorem mz:∀{l:List Nat} {i:Nat},bA l i=true->bA (xB l) i=true
 |[],i,h=>h
 |x::l,i,h=>by
  unfold xB
  cases hx:bA l x with
  |true=>
   simp only[cond_true]
   simp only[bA,Bool.or_eq_true]at h
   rcases h with h|h
   ·rw[beq_iff]at h;subst h;exact mz hx
   ·exact mz h
  |false=>
   simp only[cond_false]
   simp only[bA,Bool.or_eq_true]at h |-
   rcases h with h|h
   ·exact .inl h
   ·exact .inr (mz h)
theorem Bh{A:Nat->Prop}{i:Nat}(hA:A i):∀{l:List Nat},bA l i=true->yw (l.map λj=>(j,A j)) i
 |[],h=>by cases h
 |x::l,h=>by
  simp only[List.map_cons,yw]
  cases hx:Nat.beq x i with
  |true=>rw[beq_iff]at hx;subst hx;exact hA
  |false=>
   simp only[bA,hx,Bool.false_or]at h
   exact Bh hA h
variable {P:Program} {bs:Bs} {M:Tr FuncId} {d:aK} {cb:Cb} {lf:Nat}
theorem Ye(MF:Gx P cb){f:Operand}{ps:Array Nat}{aqz bd:Code}(h1:dK d.om aqz)(h2:dK d.om bd){β:aU}{fz:List Nat}{Y:List YE}(hY:No P β Y){s:XS}{w:XW}{p:bn}{μ:Mem}{x:Exit×XS×XW}
  (hf:gA β s p) (hm:fq β (getM bs w) μ) (hx:Yf bs d cb (cM s f) ps.toList aqz bd Y s w=.ok x) {Q:Exit->bn->Mem->Prop} (hK:EOk β bs x Q):V (d.env P) fz (.rangeFunc f ps aqz bd) Q p μ:=by
 unfold Yf at hx
 show(match look d.kU (ps.toList.headD 0)with
  |none=>False
  |some ts=>bif Nat.beq ts.length ps.toList.length then
    bJ P (cp true p.σ f) (λvs R μ'=>mZ P (match ps.toList with|p::_=>Hh [3000000] p|[]=>false) ts λfu=>vs=fu/\V (d.env P) [] aqz (HK λdb μ1=>V (d.env P) [] bd (xm R) db μ1) ⟨rE (qW p.σ) ps.toList fu,[]⟩ μ')
     (λq μ'=>PK q (Q .normal p μ') (bif fx bd then Q .ret p μ' else False) ((xB (fR bd)).map λi=>(i,Q (.exit i) p μ'))) μ
   else False)
 cases hl:look d.kU (ps.toList.headD 0)with
 |none=>rw[hl]at hx;cases hx
 |some ts=>
  rw[hl]at hx
  dsimp only at hx |-
  obtain⟨hlen,hx⟩:=du hx
  rw[hlen]
  simp only[cond_true]at hx |-
  have hv:=hf.ev f
  generalize cp true p.σ f=q at hv |-
  generalize cM s f=v at hv hx
  split at hx
  ·rename_i g first iW
   obtain⟨b,dd,rfl,ha,hc⟩:=hv.func
   refine⟨⟨g,b,dd,rfl⟩,λl rec Zh hyp=>?_⟩
   obtain⟨hn,w1,hx,_,hg⟩:=lN hx
   have hle:=aU.oG (hm.fresh hn) (l,0,0) rec
   obtain⟨at1,at2⟩:=aU.oU β w.nx (l,0,0) rec
   have qv:fq (β.ext w.nx (l,0,0) rec) (getM bs w1) (μ.set l (some (rec none))):=hm.new hn (l,0,0) rec Zh hg ⟨l,at1,by rw[Mem.ai,at2]⟩
   split at hx
   ·rename_i v2 w2 dG
    refine MF _ _ _ _ _ _ _ dG (β.ext w.nx (l,0,0) rec) (.fn (.func g) b dd) [.fn (.yield l) [] []] _ _ (.fn _ _ _ _ _ _ (.func g) ha.1 hc.1 (ha.mono hle).2 (hc.mono hle).2)
     (bq.cons (.fn _ _ [] [] [] [] (.yield _ _ _ _ at1) rfl rfl (by simp) (by simp)) (bq.nil _)) ⟨⟨l,⟨qW p.σ,[]⟩,at1,hf.round.mono hle,h1,h2,?_⟩,hY.mono hle⟩ qv λγ v' μ' uF _ lS=>?_
    ·intro vs μ1 R hμ1 Bp
     show bc P (.fn (.yield l) [] []) vs (μ1.set l (some ((β.ext w.nx (l,0,0) rec).r w.nx none))) λv μ2=>∃q μ3,v=pB q.isNone/\μ3 l=none/\μ2=μ3.set l (some ((β.ext w.nx (l,0,0) rec).r w.nx q))/\R q μ3
     rw[at2]
     refine hyp vs μ1 R hμ1 ?_
     cases tM:ps.toList with
     |nil=>
      rw[tM]at hlen Bp
      have:ts=[]:=List.eq_nil_of_length_eq_zero (beq_iff.1 hlen)
      subst this
      exact Bp
     |cons p0 ps0=>
      have e:Hh [3000000] p0=true:=rfl
      simp only[e]
      rw[tM]at Bp
      exact Bp
    ·unfold RV at hx
     split at hx
     ·rename_i q hq
      obtain⟨l',k1,k2⟩:=lS.obj w.nx _ hq
      have k3:=(uF _ _ at1)
      rw[k3.1]at k1;cases k1
      rw[k3.2,at2]at k2
      obtain⟨w3,e3,_,hg3⟩:=gn w2 w.nx .dead
      rw[e3]at hx
      have Sr:fq γ (getM bs w3) (μ'.set l none):=lS.GO hq rfl k3.1 (hg3 bs) trivial
      refine⟨q,μ'.set l none,Mem.ai _ _ _,?_,?_⟩
      ·funext b'
       by_cases e:b'=l
       ·subst e;rw[Mem.ai,k2]
       ·rw[Mem.aw _ _ e,Mem.aw _ _ e]
      ·have fin:∀{e:Exit},(O.ok (e,s,w3):O (Exit×XS×XW))=.ok x->Q e p (μ'.set l none):=λh=>by
        cases h;exact hK γ p _ (hle.trans uF) (hf.mono (hle.trans uF)) Sr
       split at hx
       ·exact fin hx
       ·obtain⟨hr,hx⟩:fx bd=true/\_:=by
         cases hc:fx bd with
         |false=>rw[hc]at hx;cases hx
         |true=>rw[hc]at hx;exact⟨rfl,hx⟩
        show bif fx bd then Q .ret p _ else False
        rw[hr]
        exact fin hx
       ·rename_i i
        obtain⟨hr,hx⟩:=du hx
        exact Bh (A:=λi=>Q (.exit i) p (μ'.set l none)) (fin hx) (mz hr)
       ·cases hx
     ·cases hx
   ·cases hx
  ·cases hx
theorem Hc(k_:P.follows .mixedOrders=true)(MF:Gx P cb)(hM:zG P M):∀(c:Code),dK d.om c->∀(β:aU) (fz:List Nat) (Y:List YE),No P β Y->Xe β bs (d.env P) fz c (λs w=>uN bs P M d cb lf c fz Y s w):=by
 intro c
 induction c with
 |skip=>
  intro hp β fz Y hY γ s w p μ x hl hf hm hx Q hK
  have:(O.ok (.normal,s,w):O (Exit×XS×XW))=.ok x:=hx
  cases this
  exact hK γ p μ (aU.le.refl γ) hf hm
 |ret=>
  intro hp β fz Y hY γ s w p μ x hl hf hm hx Q hK
  have:(O.ok (.ret,s,w):O (Exit×XS×XW))=.ok x:=hx
  cases this
  exact hK γ p μ (aU.le.refl γ) hf hm
 |exit i=>
  intro hp β fz Y hY γ s w p μ x hl hf hm hx Q hK
  have:(O.ok (.exit i,s,w):O (Exit×XS×XW))=.ok x:=hx
  cases this
  exact hK γ p μ (aU.le.refl γ) hf hm
 |region id ops dr=>
  intro hp β fz Y hY γ s w p μ x hl hf hm hx Q hK
  replace hx:(O.rec .bad (λx=>.ok (.normal,x)) (Tp bs P M d cb Y fz id ops dr s w):O (Exit×XS×XW))=.ok x:=hx
  obtain⟨⟨s1,w1⟩,e1,e2⟩:=EH hx
  cases e2
  exact To k_ hp ⟨hf,hm,MF,hM,hY.mono hl⟩ e1 λδ p' μ' k qd nv=>hK δ p' μ' k qd nv
 |seq a b Sp So=>
  intro hp β fz Y hY γ s w p μ x hl hf hm hx Q hK
  replace hx:(O.rec .bad (λx=>match x with
   |(.normal,s,w)=>uN bs P M d cb lf b fz Y s w
   |x=>.ok x) (uN bs P M d cb lf a fz Y s w):O (Exit×XS×XW))=.ok x:=hx
  obtain⟨⟨e,s1,w1⟩,e1,e2⟩:=EH hx
  have hj:(cG b).bind (look (d.env P).gH)=none:=by cases cG b<;>rfl
  simp only[V]
  rw[hj]
  refine Sp hp.1 β fz Y hY γ s w p μ _ hl hf hm e1 _ λδ p' μ' k qd nv=>?_
  have other:(O.ok (e,s1,w1):O (Exit×XS×XW))=.ok x->Q e p' μ':=λh=>by cases h;exact hK δ p' μ' k qd nv
  cases e with
  |normal=>exact So hp.2 β fz Y hY δ s1 w1 p' μ' x (hl.trans k) qd nv e2 Q (hK.mono k)
  |_=>exact other e2
 |cond c a b Sp So=>
  intro hp β fz Y hY γ s w p μ x hl hf hm hx Q hK
  replace hx:QV (cM s c) (uN bs P M d cb lf a fz Y s w) (uN bs P M d cb lf b fz Y s w)=.ok x:=hx
  have hv:Rl γ (cM s c) (cp (aT (d.env P)) p.σ c):=hf.ev c
  simp only[V]
  generalize cp (aT (d.env P)) p.σ c=q at hv |-
  generalize cM s c=v at hv hx
  unfold QV at hx
  split at hx
  ·rename_i t
   rw[hv.bool]
   dsimp only
   cases t with
   |true=>exact Sp hp.1 β fz Y hY γ s w p μ x hl hf hm hx Q hK
   |false=>exact So hp.2 β fz Y hY γ s w p μ x hl hf hm hx Q hK
  ·cases hx
 |block id a ih=>
  intro hp β fz Y hY γ s w p μ x hl hf hm hx Q hK
  replace hx:aaK id (uN bs P M d cb lf a fz Y s w)=.ok x:=hx
  simp only[V]
  cases hr:uN bs P M d cb lf a fz Y s w with
  |bad=>rw[hr]at hx;cases hx
  |ok y=>
   obtain⟨e,s1,w1⟩:=y
   rw[hr]at hx
   refine ih hp β fz Y hY γ s w p μ _ hl hf hm hr _ λδ p' μ' k qd nv=>?_
   have other:(O.ok (e,s1,w1):O (Exit×XS×XW))=.ok x->Q e p' μ':=λh=>by cases h;exact hK δ p' μ' k qd nv
   cases e with
   |exit i=>
    unfold aaK at hx
    dsimp only at hx
    show bif Nat.beq i id then Q .normal p' μ' else Q (.exit i) p' μ'
    cases hb:Nat.beq i id with
    |true=>rw[hb]at hx;cases hx;exact hK δ p' μ' k qd nv
    |false=>rw[hb]at hx;exact other hx
   |_=>exact other hx
 |loop a ih=>
  intro hp β fz Y hY γ s w p μ x hl hf hm hx Q hK
  replace hx:(match(cG a).bind (look d.loops)with
   |none=>(.bad:O (Exit×XS×XW))
   |some l=>bif jJ fz s.D l.er then xZ (writes a) s λb=>Ce l.cB b λb=>EU (za b l) (λs1 w1=>uN bs P M d cb lf a (freeze fz s.D l.er) Y s1 w1) lf s w else .bad)=.ok x:=hx
  simp only[V]
  have hle:(cG a).bind (look (d.env P).loops)=(cG a).bind (look d.loops):=rfl
  rw[hle]
  cases uF:(cG a).bind (look d.loops)with
  |none=>rw[uF]at hx;cases hx
  |some l=>
   rw[uF]at hx
   dsimp only at hx |-
   obtain⟨h1,hx⟩:=du hx
   rw[<- hf.2,h1]
   simp only[cond_true]
   obtain⟨s1,e1,r1⟩:=hf.qq (writes a)
   obtain⟨s2,e2,r2⟩:=gA.cB l.cB r1
   rw[e1,e2]at hx
   have fK:=ih hp γ (freeze fz s.D l.er) Y (hY.mono hl)
   exact TZ (n:=lf) (s:=s) (w:=w) (x:=x) r2 fK hx hf hm hK
 |rangeFunc f ps aqz bd Sp So=>
  intro hp β fz Y hY γ s w p μ x hl hf hm hx Q hK
  exact Ye MF hp.1 hp.2 (hY.mono hl) hf hm hx hK
 |_=>intro hp β fz Y hY γ s w p μ x hl hf hm hx Q hK;cases hx
end Go.az.Xv
namespace Go.az.Xv
open Go.RowKit Go.az
theorem xT{P:Program}{β:aU}{bs:Bs}{s:XS}{w:XW}{p:bn}{μ:Mem}(hf:gA β s p)(hm:fq β (getM bs w) μ):∀{rs:List ResultVar} {vs:List PV},Ci bs P s w rs=some vs->∃fu,bq β vs fu/\∀F:List PV->Prop,F fu->kE P [3000000] p μ rs F
 |[],vs,h=>by
  simp only[Ci,Option.some.injEq]at h
  subst h
  exact⟨[],bq.nil β,λF hF=>hF⟩
 | .tmp t::l,vs,h=>by
   simp only[Ci]at h
   cases ht:(gt s t).ok with
   |false=>rw[ht]at h;cases h
   |true=>
    rw[ht]at h
    simp only[cond_true]at h
    split at h
    ·rename_i us hu
     cases h
     obtain⟨Lp,h1,h2⟩:=xT hf hm hu
     refine⟨p.σ t::Lp,bq.cons (hf.1 t) h1,λF hF=>?_⟩
     simp only[kE]
     rw[(hf.1 t).ok ht]
     exact h2 _ hF
    ·cases h
 | .cell a t::l,vs,h=>by
   simp only[Ci]at h
   have e:∀k,Hh [3000000] k=true:=λk=>rfl
   simp only[kE,e]
   cases hk:eE P true t with
   |none=>rw[hk]at h;cases h
   |some ks=>
    rw[hk]at h
    dsimp only at h |-
    have hv:=hf.1 a
    split at h
    ·rename_i k off ha
     rw[ha]at hv
     rw[hv.IS]
     dsimp only
     rw[<- hf.2]
     split at h
     ·rename_i m hb
      rw[hb]
      dsimp only
      cases hc:(Nat.ble (off+ks.length) m&&aE (MK s k ks.length off))with
      |false=>rw[hc]at h;cases h
      |true=>
       rw[hc]at h
       simp only[cond_true]at h
       simp only[Bool.and_eq_true]at hc
       have hg:=hf.MK k ks.length off
       split at h
       ·rename_i us hu
        cases h
        obtain⟨Lp,h1,h2⟩:=xT hf hm hu
        refine⟨_::Lp,bq.cons (bq.uD hg (bG P t)) h1,λF hF=>?_⟩
        rw[hc.1,hg.aE hc.2]
        exact h2 _ hF
       ·cases h
     ·cases h
    ·rename_i b off ha
     rw[ha]at hv
     obtain⟨z,hz,ez⟩:=hv.ptr
     rw[ez]
     split at h
     ·rename_i us0 hr
      obtain⟨z',nE,cN,jN,Wt⟩:=jq hm hr
      rw[hz]at nE;cases nE
      cases hc:oH ks us0 with
      |false=>rw[hc]at h;cases h
      |true=>
       rw[hc]at h
       simp only[cond_true]at h
       split at h
       ·rename_i us hu
        cases h
        obtain⟨Lp,h1,h2⟩:=xT hf hm hu
        refine⟨_::Lp,bq.cons (bq.uD Wt (bG P t)) h1,λF hF=>?_⟩
        exact Wt.kinds hc (F:=λvs=>aN μ z.1 (z.2.1+off) ks.length=some vs/\kE P [3000000] p μ l λws=>F (uD (bG P t) vs::ws)) ⟨jN,h2 _ hF⟩
       ·cases h
     ·cases h
    ·cases h
theorem Yh{P:Program}{bs:Bs}{d:aK}{x:O (Exit×XS×XW)}{v:PV}{w':XW}(hx:Yi bs P d x=.ok (v,w')):∃e s w,x=.ok (e,s,w)/\w'=w/\∀(β:aU) (p:bn) (μ:Mem) (K:Kq),gA β s p->fq β (getM bs w) μ->(∀v',Rl β v v'->K v' μ)->VY P [3000000] d.fn.results.toList K e p μ:=by
 cases x with
 |bad=>cases hx
 |ok y=>
  obtain⟨e,s,w⟩:=y
  have key:(match Ci bs P s w d.fn.results.toList with
   |none=>.bad
   |some [v]=>.ok (v,w)
   |some vs=>.ok (.aC vs,w))=(.ok (v,w'):O (PV×XW))->w'=w/\∀(β:aU) (p:bn) (μ:Mem) (K:Kq),gA β s p->fq β (getM bs w) μ->(∀v',Rl β v v'->K v' μ)->kE P [3000000] p μ d.fn.results.toList (DU K μ):=λhx=>by
   split at hx
   ·cases hx
   ·rename_i u hr
    cases hx
    refine⟨rfl,λβ p μ K hf hm hK=>?_⟩
    obtain⟨Lp,h1,h2⟩:=xT hf hm hr
    obtain⟨q,b',rfl,h3,h4⟩:=h1.inv
    rw[h4.cW]at h2
    exact h2 _ (hK _ h3)
   ·rename_i us hn hr
    cases hx
    refine⟨rfl,λβ p μ K hf hm hK=>?_⟩
    obtain⟨Lp,h1,h2⟩:=xT hf hm hr
    refine h2 _ ?_
    have:DU K μ Lp=K (.aC Lp) μ:=by
     match us,Lp,h1,hn with
     |[],Lp,h1,_=>rw[h1.cW];rfl
     |[u],Lp,h1,hn=>exact absurd rfl (hn u)
     |a::b::us,Lp,h1,_=>
      obtain⟨q,b',rfl,h3,h4⟩:=h1.inv
      obtain⟨q2,b2,rfl,h5,h6⟩:=h4.inv
      rfl
    rw[this]
    exact hK _ (Rl.SX h1)
  unfold Yi at hx
  cases e with
  |normal=>obtain⟨h1,h2⟩:=key hx;exact⟨_,s,w,rfl,h1,h2⟩
  |ret=>obtain⟨h1,h2⟩:=key hx;exact⟨_,s,w,rfl,h1,h2⟩
  |_=>cases hx
theorem BK:∀(vs:List PV) (i:Nat) (s:XS),∃s':XS,(∀{γ:Type} (K:XS->γ),Vy vs i s K=K s')/\s'.D=s.D/\∀t,gt s' t=if i<=t/\t<i+vs.length then(vs[t-i]?).getD (.aC [])else gt s t
 |[],i,s=>⟨s,λK=>rfl,rfl,λt=>by rw[if_neg];simp only[List.length_nil];omega⟩
 |v::vs,i,s=>by
  obtain⟨s1,a1,a2,a3⟩:=tn s i v
  obtain⟨s2,b1,b2,b3⟩:=BK vs (i+1) s1
  refine⟨s2,λ{γ} K=>?_,b2.trans a2,λt=>?_⟩
  ·show Xv.pt s i v (λs=>Vy vs (Nat.succ i) s K)=K s2
   rw[a1];exact b1 K
  ·rw[b3,a3]
   by_cases h:i+1<=t/\t<i+1+vs.length
   ·rw[if_pos h,if_pos (by simp;omega)]
    obtain⟨k,rfl⟩:∃k,t=i+1+k:=⟨t-(i+1),by omega⟩
    rw[show i+1+k-(i+1)=k by omega,show i+1+k-i=k+1 by omega]
    rfl
   ·rw[if_neg h]
    by_cases e:t=i
    ·subst e
     rw[if_pos rfl,if_pos (by simp),Nat.sub_self];rfl
    ·rw[if_neg e,if_neg (by simp;omega)]
theorem Vx{β:aU}{vs fu:List PV}(h:bq β vs fu):∃s':XS,(∀{γ:Type} (K:XS->γ),Vy vs 0 ⟨.lf,[]⟩ K=K s')/\gA β s' ⟨Gg fu,[]⟩:=by
 obtain⟨s',e1,e2,e3⟩:=BK vs 0 ⟨.lf,[]⟩
 refine⟨s',e1,λt=>?_,e2⟩
 rw[e3]
 show Rl β _ ((fu[t]?).getD (.aC []))
 by_cases ht:t<vs.length
 ·rw[if_pos ⟨Nat.zero_le t,by omega⟩,Nat.sub_zero]
  obtain⟨q,hq,hr⟩:=h.get (List.getElem?_eq_getElem ht)
  rw[List.getElem?_eq_getElem ht,hq]
  exact hr
 ·rw[if_neg (by omega)]
  have:fu[t]?=none:=List.getElem?_eq_none (by rw[<- h.1];omega)
  rw[this]
  exact Rl.Og
theorem Eg{β:aU}:∀{ps:List Nat} {vs fu:List PV} {s:XS} {p:bn},gA β s p->bq β vs fu->∃s':XS,(∀{γ:Type} (K:XS->γ),Ha ps vs s K=K s')/\gA β s' {p with σ:=rE p.σ ps fu}
 |[],vs,fu,s,p,h,hv=>⟨s,λK=>rfl,by cases fu<;>exact h⟩
 |k::ps,[],fu,s,p,h,hv=>⟨s,λK=>rfl,by rw[hv.cW];exact h⟩
 |k::ps,v::vs,fu,s,p,h,hv=>by
  obtain⟨q,b',rfl,h1,h2⟩:=hv.inv
  obtain⟨s1,e1,r1⟩:=h.pt k h1
  obtain⟨s2,e2,r2⟩:=Eg (ps:=ps) r1 h2
  refine⟨s2,λ{γ} K=>?_,r2⟩
  show Xv.pt s k v (λs=>Ha ps vs s K)=K s2
  rw[e1];exact e2 K
theorem fq.fill{β:aU}{g g':Nat->Option XO}{μ:Mem}(h:fq β g μ){i:Nat}{e:XO}{x:Nat×Nat×Nat}(hx:β.m i=some x)(hb:μ x.1=none){o:Option Ob}(hg:∀j,g' j=if j=i then some e else g j)(hn:qA β (μ.set x.1 o) i e):fq β g' (μ.set x.1 o):=by
 have ne:∀{j:Nat} {f:XO} {y:Nat×Nat×Nat},g j=some f->f.live=true->β.m j=some y->y.1≠x.1:=λ{j f y} hf v hy e0=>by
  obtain⟨z,hz,hm⟩:=(h.obj j f hf).at v
  rw[hy]at hz;cases hz
  exact hm (by rw[e0];exact hb)
 refine⟨λj y hy=>?_,λj f hf=>?_,λj k f f' y z hf qd v v' hy hz HY=>?_⟩
 ·rw[hg];split
  ·simp
  ·exact h.UR j y hy
 ·rw[hg]at hf;split at hf
  ·rename_i e0;subst e0;cases hf;exact hn
  ·exact(h.obj j f hf).set λv y hy=>ne hf v hy
 ·rw[hg]at hf qd
  split at hf<;>split at qd
  ·rename_i e1 e2;rw[e1,e2]
  ·rename_i e1 e2
   subst e1
   rw[hx]at hy;cases hy
   exact absurd HY.symm (ne qd v' hz)
  ·rename_i e1 e2
   subst e2
   rw[hx]at hz;cases hz
   exact absurd HY (ne hf v hy)
  ·exact h.inj j k f f' y z hf qd v v' hy hz HY
theorem FL{P:Program}{β:aU}{i:Nat}{y:YE}{Y':List YE}:∀{Y:List YE},KC i Y=some (y,Y')->No P β Y->y.id=i/\No P β (y::Y')
 |[],h,_=>by cases h
 |z::Y,h,hY=>by
  simp only[KC]at h
  cases hb:Nat.beq z.id i with
  |true=>rw[hb]at h;cases h;exact⟨beq_iff.1 hb,hY⟩
  |false=>rw[hb]at h;exact FL h hY.2
def Sf(P:Program)(g:FuncId)(F:List PV->Option PV):Prop:=∀(β:aU) (args cg:List PV) (v:PV) (μ:Mem) (K:Kq),bq β args cg->F args=some v->(∀v',Rl β v v'->K v' μ)->ab P g cg μ K
def Jj(P:Program)(g:FuncId)(F:Bs->XW->List PV->Option PV):Prop:=∀(β:aU) (bs:Bs) (w:XW) (args cg:List PV) (v:PV) (μ:Mem) (K:Kq),bq β args cg->fq β (getM bs w) μ->F bs w args=some v->(∀v',Rl β v v'->K v' μ)->ab P g cg μ K
def Sj(P:Program)(g:FuncId)(F:Bs->XW->List PV->O (PV×XW)):Prop:=∀(β:aU) (bs:Bs) (w:XW) (args cg:List PV) (v:PV) (w':XW) (μ:Mem) (K:Kq),bq β args cg->fq β (getM bs w) μ->F bs w args=.ok (v,w')->(∀γ v' μ',β.le γ->Rl γ v v'->fq γ (getM bs w') μ'->K v' μ')->ab P g cg μ K
def zK(P:Program)(g:FuncId)(d:aK):Prop:=P.funcs[g]?=some d.fn/\ct P g=true/\match d.fn.body with
 |none=>False
 |some c=>tA d.fn.ntmps c d.fn.results.toList d.fn.ntmps=true/\dK d.om c
def ah(P:Program)(g:FuncId):zA->Prop
 | .code d=>zK P g d
 | .pure F=>Sf P g F
 | .look F=>Jj P g F
 | .DK F d=>Sj P g F/\zK P g d
def sO(P:Program)(T:Tr zA):Prop:=∀g e,T.get g=some e->ah P g e
theorem Pp{n:Nat}{c:Code}{rs:List ResultVar}{k k':Nat}(h:tA n c rs k=true)(hk:k'<=n):tA n c rs k'=true:=by
 unfold tA at h |-
 simp only[Bool.and_eq_true]at h |-
 exact⟨h.1,Nat.ble_eq_true_of_le hk⟩
theorem KJ{P:Program}{M:Tr FuncId}{cb:Cb}{lf:Nat}{g:FuncId}{d:aK}(k_:P.follows .mixedOrders=true)(hM:zG P M)(MF:Gx P cb)(hd:zK P g d){bs:Bs}{Y:List YE}{args cg:List PV}{w w':XW}{v:PV}(hx:cdX bs P M cb lf Y d args w=.ok (v,w')){β:aU}{μ:Mem}{K:Kq}(jP:bq β args cg)(hY:No P β Y)(hm:fq β (getM bs w) μ)(hK:∀γ v' μ',β.le γ->Rl γ v v'->fq γ (getM bs w') μ'->K v' μ'):ab P g cg μ K:=by
 obtain⟨hf1,hf2,hf3⟩:=hd
 unfold cdX at hx
 obtain⟨hlen,hx⟩:=du hx
 obtain⟨s',e1,r1⟩:=Vx jP
 rw[e1]at hx
 cases hb:d.fn.body with
 |none=>rw[hb]at hf3;exact hf3.elim
 |some c=>
  rw[hb]at hx hf3
  dsimp only at hx hf3
  obtain⟨e,s2,w2,e2,rfl,e3⟩:=Yh hx
  refine Gk (E:=d.env P) hf1 hb rfl rfl (Pp hf3.1 (by rw[<- jP.1];exact Nat.le_of_ble_eq_true hlen)) hf2 ?_
  exact Hc k_ MF hM c hf3.2 β [] Y hY β s' w _ μ _ (aU.le.refl β) r1 hm e2 _ λγ p' μ' k qd nv=>e3 γ p' μ' K qd nv λv' hv=>hK γ v' μ' k hv nv
theorem aeD{P:Program}{M:Tr FuncId}{T:Tr zA}{cb:Cb}{lf:Nat}(k_:P.follows .mixedOrders=true)(hM:zG P M)(hT:sO P T)(MF:Gx P cb):Gx P (λbs Y f args w=>fnX bs P M T cb lf Y f args w):=by
 intro bs Y f args w v w' hx β f' cg μ K hf ha hY hm hK
 replace hx:fnX bs P M T cb lf Y f args w=.ok (v,w'):=hx
 unfold fnX at hx
 split at hx
 ·rename_i g first iW
  obtain⟨b,dd,rfl,h1,h2⟩:=hf.func
  have jP:=(h1.append ha).append h2
  show ab P g (b++cg++dd) μ K
  split at hx
  ·cases hx
  ·rename_i F hF
   split at hx
   ·rename_i u hu
    cases hx
    exact hT g _ hF β _ _ _ μ K jP hu λv' hv=>hK β v' μ (aU.le.refl β) hv hm
   ·cases hx
  ·rename_i F hF
   split at hx
   ·rename_i u hu
    cases hx
    exact hT g _ hF β bs _ _ _ _ μ K jP hm hu λv' hv=>hK β v' μ (aU.le.refl β) hv hm
   ·cases hx
  ·rename_i F d hF
   obtain⟨hF1,hF2⟩:=(hT g _ hF:Sj P g F/\zK P g d)
   split at hx
   ·rename_i x Wi
    cases hx
    exact hF1 β bs w _ _ v w' μ K jP hm Wi hK
   ·exact KJ k_ hM MF hF2 hx jP hY hm hK
  ·rename_i d hd
   exact KJ k_ hM MF (hT g _ hd:zK P g d) hx jP hY hm hK
 ·rename_i i
  split at hx
  ·cases hx
  ·rename_i y Y' hy
   obtain⟨xv,⟨l,p,g1,g2,g3,g4,g5⟩,hY'⟩:=FL hy hY
   subst xv
   have hfy:f'=.fn (.yield l) [] []:=by
    cases hf with
    |fn f g a b c d hf e1 e2 ha hc=>
     cases hf with
     |yield i l' a' c' h=>
      rw[g1]at h;cases h
      rw[List.eq_nil_of_length_eq_zero e1.symm,List.eq_nil_of_length_eq_zero e2.symm]
   subst hfy
   split at hx
   ·rename_i hlp
    obtain⟨hk,hx⟩:=du hx
    obtain⟨l',k1,k2⟩:=hm.obj y.id _ hlp
    rw[g1]at k1;cases k1
    obtain⟨w1,e1,_,GG⟩:=gn w y.id .hole
    rw[e1]at hx
    have qv:fq β (getM bs w1) (μ.set l none):=hm.GO hlp rfl g1 (GG bs) ⟨l,g1⟩
    obtain⟨s1,e2,r2⟩:=Eg (ps:=y.ps) g2 ha
    rw[e2]at hx
    have hμ:(μ.set l none).set l (some (β.r y.id none))=μ:=by
     funext b'
     by_cases e:b'=l
     ·subst e;rw[Mem.ai,k2]
     ·rw[Mem.aw _ _ e,Mem.aw _ _ e]
    have dG:=g5 cg (μ.set l none) (λq μ3=>μ3 l=none->K (pB q.isNone) (μ3.set l (some (β.r y.id q)))) (Mem.ai _ _ _) ?_
    ·rw[hμ]at dG
     refine dG.mono λv μ2=>?_
     rintro⟨q,μ3,rfl,h2,rfl,h4⟩
     exact h4 h2
    ·refine ha.mZ hk (F:=λfu=>cg=fu/\_) ⟨rfl,?_⟩
     cases hr:uN bs P M y.d cb lf y.assign [] Y' s1 w1 with
     |bad=>rw[hr]at hx;cases hx
     |ok x1=>
      obtain⟨ex,s2,w2⟩:=x1
      rw[hr]at hx
      cases ex with
      |normal=>
       dsimp only at hx
       refine Hc k_ MF hM y.assign g3 β [] Y' hY' β s1 w1 _ _ _ (aU.le.refl β) r2 qv hr _ λγ p' μ' k qd nv=>?_
       show V (y.d.env P) [] y.body (xm _) p' μ'
       cases GC:uN bs P M y.d cb lf y.body [] Y' s2 w2 with
       |bad=>rw[GC]at hx;cases hx
       |ok x2=>
        obtain⟨e3,s3,w3⟩:=x2
        rw[GC]at hx
        refine Hc k_ MF hM y.body g4 γ [] Y' (hY'.mono k) γ s2 w2 _ _ _ (aU.le.refl γ) qd nv GC _ λδ q' mQ k2 hf2 lS=>?_
        have gl:=(k.trans k2) _ _ g1
        have fin:∀(q:Option Code),(gz w3 y.id (.lp q) λw=>(.ok (pB q.isNone,w):O (PV×XW)))=.ok (v,w')->mQ l=none->K (pB q.isNone) (mQ.set l (some (β.r y.id q))):=λq hq hn=>by
         obtain⟨w4,e4,_,hg4⟩:=gn w3 y.id (.lp q)
         rw[e4]at hq
         cases hq
         rw[<- gl.2]
         exact hK δ _ _ (k.trans k2) (Rl.cl rfl) (lS.fill gl.1 hn (hg4 bs) ⟨l,gl.1,Mem.ai _ _ _⟩)
        cases e3 with
        |normal=>exact fin none hx
        |ret=>exact fin (some .ret) hx
        |exit j=>exact fin (some (.exit j)) hx
        |_=>cases hx
      |_=>cases hx
   ·cases hx
 ·cases hx
theorem ze{P:Program}{M:Tr FuncId}{T:Tr zA}{lf:Nat}(k_:P.follows .mixedOrders=true)(hM:zG P M)(hT:sO P T):∀n,Gx P (zf P M T lf n)
 |0=>λbs Y f args w v w' hx=>by cases hx
 |n+1=>aeD k_ hM hT (ze k_ hM hT n)
def Ap:cK->cK->Bool
 | .nil,.nil=>true
 | .tk i q,.tk i' q'=>Nat.beq i i'&&Ap q q'
 | .ld i q r,.ld i' q' r'=>Nat.beq i i'&&(Ap q q'&&Ap r r')
 | .alt i q r,.alt i' q' r'=>Nat.beq i i'&&(Ap q q'&&Ap r r')
 | .done,.done=>true
 |_,_=>false
theorem UL:∀(a b:cK),Ap a b=true->a=b:=by
 intro a
 induction a with
 |nil=>intro b h;cases b<;>first|rfl|(cases h;done)
 |done=>intro b h;cases b<;>first|rfl|(cases h;done)
 |tk i q ih=>
  intro b h
  cases b with
  |tk i' q'=>
   simp only[Ap,Bool.and_eq_true,beq_iff]at h
   rw[h.1,ih _ h.2]
  |_=>cases h
 |ld i q r ih ih'=>
  intro b h
  cases b with
  |ld i' q' r'=>
   simp only[Ap,Bool.and_eq_true,beq_iff]at h
   rw[h.1,ih _ h.2.1,ih' _ h.2.2]
  |_=>cases h
 |alt i q r ih ih'=>
  intro b h
  cases b with
  |alt i' q' r'=>
   simp only[Ap,Bool.and_eq_true,beq_iff]at h
   rw[h.1,ih _ h.2.1,ih' _ h.2.2]
  |_=>cases h
def gG(pl:List (Nat×cK)):Code->Bool
 | .region id ops true=>match eI ops,look pl id with
   |some a,some b=>Ap a b
   |_,_=>false
 | .seq a b=>gG pl a&&gG pl b
 | .cond _ a b=>gG pl a&&gG pl b
 | .block _ a=>gG pl a
 | .loop a=>gG pl a
 | .rangeFunc _ _ a b=>gG pl a&&gG pl b
 |_=>true
theorem LX{pl:List (Nat×cK)}:∀(c:Code),gG pl c=true->dK pl c:=by
 intro c
 induction c with
 |region id ops dr=>
  intro h
  cases dr with
  |false=>trivial
  |true=>
   simp only[gG]at h
   show eI ops=look pl id
   split at h
   ·rename_i a b e1 e2;rw[e1,e2,UL a b h]
   ·cases h
 |seq a b Sp So=>intro h;simp only[gG,Bool.and_eq_true]at h;exact⟨Sp h.1,So h.2⟩
 |cond c a b Sp So=>intro h;simp only[gG,Bool.and_eq_true]at h;exact⟨Sp h.1,So h.2⟩
 |block id a ih=>intro h;exact ih h
 |loop a ih=>intro h;exact ih h
 |rangeFunc f ps a b Sp So=>intro h;simp only[gG,Bool.and_eq_true]at h;exact⟨Sp h.1,So h.2⟩
 |_=>intro h;trivial
def WO(P:Program)(g:FuncId)(d:aK):Bool:=ct P g&&match d.fn.body with
 |none=>false
 |some c=>tA d.fn.ntmps c d.fn.results.toList d.fn.ntmps&&gG d.om c
theorem codeOk{P:Program}{g:FuncId}{d:aK}(h1:P.funcs[g]?=some d.fn)(h2:WO P g d=true):ah P g (.code d):=by
 unfold WO at h2
 simp only[Bool.and_eq_true]at h2
 refine⟨h1,h2.1,?_⟩
 have h3:=h2.2
 split at h3
 ·cases h3
 ·rename_i c hc
  try rw[hc]
  simp only[Bool.and_eq_true]at h3
  exact⟨h3.1,LX c h3.2⟩
def Tr.All{α:Type}:(Nat->α->Prop)->Tr α->Prop
 |_,.lf=>True
 |R,.nd a v b=>(match v with|none=>True|some x=>R 0 x)/\a.All (λk=>R (2*k+1))/\b.All (λk=>R (2*k+2))
theorem Tr.All.get{α:Type}:∀{t:Tr α} {R:Nat->α->Prop},t.All R->∀{k:Nat} {x:α},t.get k=some x->R k x
 | .lf,R,h,k,x,hx=>by cases hx
 | .nd a v b,R,h,0,x,hx=>by
   have xt:v=some x:=hx
   subst xt
   exact h.1
 | .nd a v b,R,h,m+1,x,hx=>by
   rw[Tr.jR]at hx
   by_cases hm:m % 2=1
   ·rw[if_pos hm]at hx
    have:=h.2.2.get hx
    rw[show 2*(m/2)+2=m+1 by omega]at this
    exact this
   ·rw[if_neg hm]at hx
    have:=h.2.1.get hx
    rw[show 2*(m/2)+1=m+1 by omega]at this
    exact this
theorem sO.of{P:Program}{T:Tr zA}(h:T.All (ah P)):sO P T:=λg e he=>h.get he
theorem zG.of{P:Program}{M:Tr FuncId}(h:M.All λt g=>∀v,pv P (method (P.types.size+Made.depth) t v "Compare")=some (g,v)):zG P M:=λt g e=>h.get e
def aa6:aU:=⟨λ_=>none,λ_ _=>.cells 0 []⟩
theorem fq.empty(n:Nat)(μ:Mem):fq aa6 (getM [] ⟨.lf,n⟩) μ:=⟨λi x h=>by(cases h),λi e h=>by(cases h),λi j e e' x y h=>by(cases h)⟩
theorem agN{P:Program}{M:Tr FuncId}{T:Tr zA}{lf n f k:Nat}{args:List PV}{v:PV}{w:XW}(k_:P.follows .mixedOrders=true)(hM:zG P M)(hT:sO P T)(hx:zf P M T lf n [] [] (.fn (.func f) [] []) args ⟨.lf,k⟩=.ok (v,w))
  {cg:List PV} (ha:bq aa6 args cg) {μ:Mem} {K:Kq} (hK:∀γ v' μ',Rl γ v v'->fq γ (getM [] w) μ'->K v' μ'):ab P f cg μ K:=by
 have:=ze (lf:=lf) k_ hM hT n [] [] _ _ _ _ _ hx aa6 (.fn (.func f) [] []) cg μ K (.fn _ _ [] [] [] [] (.func f) rfl rfl (by simp) (by simp)) ha trivial (fq.empty k μ) λγ v' μ' _=>hK γ v' μ'
 simpa[bc]using this
noncomputable def QF(rd:Nat->Option PV)(cmp:PV->Option PV)(lo hi:Nat)(r:Nat->Nat->Option PV)(nq:Nat):Option PV:=
 match rd nq with
 |none=>none
 |some y=>match cmp y with
  |some (.raw (.int .i64 c))=>bif c == 0 then some (.aC [pI nq,pB true])else bif decide (c<0)then r (Nat.succ nq) hi else r lo nq
  |_=>none
noncomputable def FM(rd:Nat->Option PV)(cmp:PV->Option PV)(n:Nat):Nat->Nat->Option PV:=
 Nat.rec (motive:=λ_=>Nat->Nat->Option PV) (λ_ _=>none) (λ_ r lo hi=>bif Nat.blt lo hi then QF rd cmp lo hi r (Nat.add lo (Nat.div (Nat.sub hi lo) 2))else some (.aC [pI lo,pB false])) n
noncomputable def KD(W:Nat)(mk:List PV->PV)(cmp:List PV->Option PV)(ka:PV->Bool)(bs:Bs)(w:XW)(args:List PV):Option PV:=
 match args with
 |[.raw (.pointer (some ⟨b,o,none⟩)),x]=>match(bif ka x then Eo bs w b o 1 else none)with
  |some [.raw (.slice none 0 _)]=>some (.aC [pI 0,pB false])
  |some [.raw (.slice (some ⟨b',o',none⟩) n _)]=>bif Nat.blt n 4000000000000000000 then FM (λi=>(Eo bs w b' (Nat.add o' (Nat.mul i W)) W).map mk) (λy=>cmp [y,x]) (Nat.succ n) 0 n else none
  |_=>none
 |_=>none
def aeE(D:SD)(a0:Option Addr)(u0:Mem)(K:Kq)(e:PV):Prop:=
 nP a0 λb o=>
 ∃s n m,aN u0 b o 1=some [pV s n m]/\
 aj (α:=Int×Int) (λnext s u=>
  ae (decide ((s.1:Int)<s.2))
  (((2):Int)≠0/\
   nP a0 λIW HA=>
   ∃x xn xc,aN u IW HA 1=some [pV x xn xc]/\
   bR x λVw TN=>
   (0:Int)<=my s/\my s<((xn:Nat):Int)/\
   D.X λy=>aN u Vw (TN+Int.toNat (my s)*D.W) D.W=some y/\
   (∀v,pv D.P (method (D.P.types.size+Made.depth) D.TE v "Compare")=some (D.fc,v))/\
   ab D.P D.fc [D.E (y.map cu),e] u λv pK=>
   ∃x,v=(pI x)/\
   ae ((x:Int) == (0))
   (K (.aC [pI (my s),pB true]) pK)
   (ae (decide ((x:Int)<(0)))
    (next ((IntKind.wrap .i64 (my s+(1))),s.2) pK)
    (next (s.1,my s) pK)))
  (K (.aC [pI s.1,pB false]) u))
 ((0),((n:Nat):Int)) u0
def Xf(D:SD)(mk:List PV->PV)(cmp:List PV->Option PV):Prop:=∀(β:aU) (cs cN:List PV) (x x' v:PV),bq β cs cN->Rl β x x'->cmp [mk cs,x]=some v->
 (∀Q:List PV->Prop,Q cN->D.X Q)/\∀(μ:Mem) (K:Kq),K v μ->ab D.P D.fc [D.E (cN.map cu),x'] μ K
theorem QE{P:Program}{g:FuncId}{D:SD}{mk:List PV->PV}{cmp:List PV->Option PV}{ka:PV->Bool}(hf:∀(β:aU) (x e:PV),ka x=true->Rl β x e->∀(a0:Option Addr) (u0:Mem) (K:Kq),aeE D a0 u0 K e->ab P g [pA a0,e] u0 K)(hc:Xf D mk cmp)
  (hM:∀v,pv D.P (method (D.P.types.size+Made.depth) D.TE v "Compare")=some (D.fc,v)):Jj P g (KD D.W mk cmp ka):=by
 intro β bs w args cg v μ K ha hm hF hK
 unfold KD at hF
 split at hF
 ·rename_i b o x
  obtain⟨q,r,rfl,h1,h2⟩:=ha.inv
  obtain⟨x',r',rfl,h3,h4⟩:=h2.inv
  rw[h4.cW]
  obtain⟨z,hz,rfl⟩:=h1.ptr
  obtain⟨hka,hF⟩:ka x=true/\(match Eo bs w b o 1 with
   |some [.raw (.slice none 0 _)]=>some (.aC [pI (0:Nat),pB false])
   |some [.raw (.slice (some ⟨b',o',none⟩) n _)]=>bif Nat.blt n 4000000000000000000 then FM (λi=>(Eo bs w b' (Nat.add o' (Nat.mul i D.W)) D.W).map mk) (λy=>cmp [y,x]) (Nat.succ n) 0 n else none
   |_=>none)=some v:=by
   cases hk:ka x with
   |false=>rw[hk]at hF;cases hF
   |true=>rw[hk]at hF;exact⟨rfl,hF⟩
  refine hf β x x' hka h3 _ _ _ ?_
  show ∃s n m,aN μ z.1 (z.2.1+o) 1=some [pV s n m]/\_
  have Wa:∀{c:Nat} {s:Option Addr},aN μ z.1 (z.2.1+o) 1=some [pV s 0 c]->v=.aC [pI 0,pB false]->∃s n m,aN μ z.1 (z.2.1+o) 1=some [pV s n m]/\aj (α:=Int×Int) (λnext s u=>
    ae (decide ((s.1:Int)<s.2))
    (((2):Int)≠0/\
     nP (some ⟨z.1,z.2.1+o,none⟩) λIW HA=>
     ∃x xn xc,aN u IW HA 1=some [pV x xn xc]/\
     bR x λVw TN=>
     (0:Int)<=my s/\my s<((xn:Nat):Int)/\
     D.X λy=>aN u Vw (TN+Int.toNat (my s)*D.W) D.W=some y/\
     (∀v,pv D.P (method (D.P.types.size+Made.depth) D.TE v "Compare")=some (D.fc,v))/\
     ab D.P D.fc [D.E (y.map cu),x'] u λv pK=>
     ∃x,v=(pI x)/\
     ae ((x:Int) == (0))
     (K (.aC [pI (my s),pB true]) pK)
     (ae (decide ((x:Int)<(0)))
      (next ((IntKind.wrap .i64 (my s+(1))),s.2) pK)
      (next (s.1,my s) pK)))
    (K (.aC [pI s.1,pB false]) u))
   ((0),((n:Nat):Int)) μ:=λhr hv=>⟨_,_,_,hr,λ_ s u=>s=(0,0)/\u=μ,⟨0,rfl,rfl⟩,λ_ s u ⟨e1,e2⟩=>by
    subst e1;subst e2
    refine uA.2 ⟨λh=>?_,λ_=>?_⟩
    ·simp at h
    ·exact hK _ (by rw[hv];exact Rl.Rf rfl)⟩
  split at hF
  ·rename_i c hr
   obtain⟨z',nE,cN,jN,hl⟩:=jq hm hr
   rw[hz]at nE;cases nE
   obtain⟨q1,r1,rfl,h5,h6⟩:=hl.inv
   rw[h6.cW]at jN
   have e1:q1=.raw (.slice none 0 c):=by
    cases h5 with|raw _ w' h5=>cases h5;rfl
   rw[e1]at jN
   exact Wa jN (by cases hF;rfl)
  ·rename_i b' o' n k hr
   obtain⟨hn,hF⟩:=(show Nat.blt n 4000000000000000000=true/\FM _ _ (Nat.succ n) 0 n=some v from by
    cases hb:Nat.blt n 4000000000000000000 with
    |false=>rw[hb]at hF;cases hF
    |true=>rw[hb]at hF;exact⟨rfl,hF⟩)
   have hn:n<4000000000000000000:=Nat.le_of_ble_eq_true hn
   obtain⟨z',nE,cN,jN,hl⟩:=jq hm hr
   rw[hz]at nE;cases nE
   obtain⟨q1,r1,rfl,h5,h6⟩:=hl.inv
   rw[h6.cW]at jN
   rcases h5.VV with⟨y,C',hy,e1⟩|⟨wu,a,e1⟩
   ·rw[e1]at jN
    refine⟨_,_,_,jN,λm s u=>∃lo hi:Nat,s=((lo:Int),(hi:Int))/\hi<=n/\u=μ/\FM (λi=>(Eo bs w b' (Nat.add o' (Nat.mul i D.W)) D.W).map mk) (λy=>cmp [y,x]) m lo hi=some v,⟨n+1,0,n,rfl,Nat.le_refl n,rfl,hF⟩,?_⟩
    rintro m s u ⟨lo,hi,rfl,Zq,rfl,hx⟩
    cases m with
    |zero=>cases hx
    |succ m=>
     replace hx:(bif Nat.blt lo hi then QF (λi=>(Eo bs w b' (Nat.add o' (Nat.mul i D.W)) D.W).map mk) (λy=>cmp [y,x]) lo hi (FM (λi=>(Eo bs w b' (Nat.add o' (Nat.mul i D.W)) D.W).map mk) (λy=>cmp [y,x]) m) (lo+(hi-lo)/2)else some (.aC [pI lo,pB false]))=some v:=hx
     refine uA.2 ⟨λh=>?_,λh=>?_⟩
     ·have bB:lo<hi:=by simpa using h
      have hb:Nat.blt lo hi=true:=Nat.ble_eq_true_of_le bB
      rw[hb]at hx
      simp only[cond_true]at hx
      refine⟨by decide,?_⟩
      show ∃x xn xc,aN u z.1 (z.2.1+o) 1=some [pV x xn xc]/\_
      refine⟨_,_,_,jN,?_⟩
      have Qp:my ((lo:Int),(hi:Int))=((lo+(hi-lo)/2:Nat):Int):=YM bB (by omega)
      rw[Qp]
      generalize hmd:lo+(hi-lo)/2=nq at hx |-
      have Mz:nq<hi:=by omega
      unfold QF at hx
      split at hx
      ·cases hx
      ·rename_i yv hyv
       simp only[Option.map_eq_some_iff]at hyv
       obtain⟨cs,qx,rfl⟩:=hyv
       obtain⟨y2,Qd,cs2,hc2,uF⟩:=jq hm qx
       rw[hy]at Qd;cases Qd
       split at hx
       ·rename_i cc Bo
        obtain⟨k1,k2⟩:=hc β cs cs2 x x' _ uF h3 Bo
        show(0:Int)<=(nq:Int)/\_
        refine⟨by omega,by omega,k1 (λy=>_/\_) ⟨?_,hM,k2 _ _ ⟨cc,rfl,?_⟩⟩⟩
        ·rw[Int.toNat_natCast,Nat.add_assoc];exact hc2
        ·refine uA.2 ⟨λh0=>?_,λh0=>?_⟩
         ·rw[h0]at hx
          simp only[cond_true,Option.some.injEq]at hx
          refine hK _ ?_
          rw[<- hx];exact Rl.Rf rfl
         ·rw[h0]at hx
          simp only[cond_false]at hx
          refine uA.2 ⟨λh1=>?_,λh1=>?_⟩
          ·rw[h1]at hx
           simp only[cond_true]at hx
           refine⟨m,Nat.lt_succ_self m,nq+1,hi,?_,Zq,rfl,hx⟩
           rw[aB (by omega) (by omega)];rfl
          ·rw[h1]at hx
           simp only[cond_false]at hx
           exact⟨m,Nat.lt_succ_self m,lo,nq,rfl,by omega,rfl,hx⟩
       ·cases hx
     ·have bB:¬lo<hi:=by simpa using h
      have hb:Nat.blt lo hi=false:=by
       cases hq:Nat.blt lo hi with
       |false=>rfl
       |true=>exact absurd (Nat.le_of_ble_eq_true hq) bB
      rw[hb]at hx
      simp only[cond_false,Option.some.injEq]at hx
      refine hK _ ?_
      rw[<- hx];exact Rl.Rf rfl
   ·subst wu
    rw[e1]at jN
    exact Wa jN (by
     have:some (.aC [pI (0:Nat),pB false])=some v:=hF
     cases this;rfl)
  ·cases hF
 ·cases hF
end Go.az.Xv
namespace Go.Proofs.YtbkejjmjopgpoaaGreat
open Go.Proofs.Tryz Go.az Go.az.Xv Go.RowKit
theorem WZ(a b:Int):cI a b=fB a b:=by
 unfold cI fB
 by_cases h:a<b
 ·rw[if_pos h,decide_eq_true h];rfl
 ·rw[if_neg h,decide_eq_false h]
  by_cases k:b<a
  ·rw[if_pos k,decide_eq_true k];rfl
  ·rw[if_neg k,decide_eq_false k];rfl
theorem aeN(a b:ByteArray):cS a b=bN a b:=by
 unfold cS bN
 cases h:Op.bytesLess a.toList b.toList with
 |true=>rfl
 |false=>cases k:aG a b<;>rfl
theorem Rm(a b:Sym):cSy a.k a.t a.n b.k b.t b.n=aJ a b:=by
 unfold cSy aJ
 rw[WZ,aeN,WZ]
 by_cases h:fB a.k b.k=0
 ·rw[if_pos h,h]
  by_cases k:bN a.t b.t=0
  ·rw[if_pos k,k];rfl
  ·rw[if_neg k]
   have:(bN a.t b.t == 0)=false:=by simpa using k
   rw[this];rfl
 ·rw[if_neg h]
  have:(fB a.k b.k == 0)=false:=by simpa using h
  rw[this];rfl
theorem BX{β:aU}{a n:Int}{s:ByteArray}{l:List PV}{q:PV}(h:Rl β (.agg [.raw (.int .i64 a),.raw (.string s),.raw (.int .i64 n)]) q):q=.agg (Sym.pv ⟨a,s,n⟩):=by
 obtain⟨b,rfl,h1⟩:=h.RU
 obtain⟨q1,r1,rfl,h2,h3⟩:=h1.inv
 obtain⟨q2,r2,rfl,h4,h5⟩:=h3.inv
 obtain⟨q3,r3,rfl,h6,h7⟩:=h5.inv
 rw[h7.cW,h2.int,h4.str,h6.int]
theorem TG:Sf prog 489 Iv:=by
 intro β args cg v μ K h hF hK
 unfold Iv at hF
 split at hF
 ·rename_i a s n a' s' n'
  cases hF
  obtain⟨q1,r1,rfl,h1,h2⟩:=h.inv
  obtain⟨q2,r2,rfl,h3,h4⟩:=h2.inv
  rw[h4.cW,BX (l:=[]) h1,BX (l:=[]) h3]
  refine(iE ⟨a,s,n⟩ ⟨a',s',n'⟩).call ?_
  rw[<- Rm]
  exact hK _ (Rl.cl rfl)
 ·cases hF
noncomputable def Ud(ks:List KV)(x:PV):Bool:=match x with| .agg cs=>oH ks cs|_=>false
theorem Uc{β:aU}{ks:List KV}{x e:PV}(h:Ud ks x=true)(hr:Rl β x e):∃vs,e=.agg vs/\yU ks λus=>us=vs:=by
 unfold Ud at h
 split at h
 ·obtain⟨b,rfl,hb⟩:=hr.RU
  exact⟨b,rfl,hb.kinds h (F:=λus=>us=b) rfl⟩
 ·cases h
theorem UI:Xf KS.D PV.agg Iv:=by
 intro β cs cN x x' v hc hx hF
 unfold Iv at hF
 split at hF
 ·rename_i a s n a' s' n' he
  cases hF
  simp only[List.cons.injEq,PV.agg.injEq,and_true]at he
  obtain⟨rfl,rfl⟩:=he
  have e1:=BX (l:=[]) (Rl.Aw hc)
  simp only[PV.agg.injEq]at e1
  rw[BX (l:=[]) hx,e1]
  refine⟨λQ hQ=>⟨a,s,n,hQ⟩,λμ K hK=>?_⟩
  refine(iE ⟨a,s,n⟩ ⟨a',s',n'⟩).call ?_
  rw[<- Rm]
  exact hK
 ·cases hF
@[reducible] def adq:List KV:=[.raw (.int .i64),.raw .str,.raw (.int .i64)]
theorem Hp:Jj prog 72 (KD 3 PV.agg Iv (Ud adq)):=QE (D:=KS.D) (λβ x e hk hr a0 u0 K h=>by
 obtain⟨vs,rfl,a,s,n,rfl⟩:=Uc hk hr
 exact VC [3] [(2,⟨[(6,.one (.raw (.int .i64))),(7,.one (.raw (.int .i64)))],[]⟩)] [] [] [] [] [13,27] func72 h) UI λv=>by kernel_rfl
end Go.Proofs.YtbkejjmjopgpoaaGreat
set_option maxRecDepth 100000
namespace Go.Proofs.YtbkejjmjopgpoaaGreat
open Go.Proofs.Tryz Go.az Go.az.Xv
noncomputable def d7:aK:=⟨f7,[3],[],[],[]⟩
noncomputable def d8:aK:=⟨f8,[1,6,8,1000001,1000007,1000012,1000013],[(4,⟨[(4,.one (.raw .slice)),(20,.one (.raw (.int .i64)))],[]⟩),(10,⟨[(40,.one (.raw (.int .i64)))],[]⟩),(17,⟨[(81,.one (.raw (.int .i64)))],[]⟩)],[],[(1,.ld 0 (.alt 1 (.alt 2 (.alt 3 (.tk 4<| .alt 5 (.tk 6<| .nil) .done) .done) .done) .done)<| .alt 1 (.ld 0 (.alt 2 (.alt 3 (.tk 4<| .alt 5 (.tk 6<| .nil) .done) .done) .done)<| .alt 2 (.ld 0 (.alt 3 (.tk 4<| .alt 5 (.tk 6<| .nil) .done) .done)<| .alt 3 (.tk 0<| .tk 4<| .alt 5 (.tk 6<| .nil) .done) .done) .done) .done),(7,.tk 0<| .tk 1<| .tk 2<| .tk 3<| .tk 4<| .tk 5<| .alt 6 (.nil) .done),(12,.tk 0<| .tk 1<| .tk 2<| .tk 3<| .tk 4<| .alt 5 (.nil) .done),(13,.tk 0<| .tk 1<| .tk 2<| .tk 3<| .tk 4<| .tk 5<| .alt 6 (.nil) .done)]⟩
noncomputable def d16:aK:=⟨f16,[],[],[],[]⟩
noncomputable def d23:aK:=⟨f23,[2,7,10,12,16,1000028],[(7,⟨[(31,.one (.raw (.int .i64)))],[]⟩),(12,⟨[(6,.one (.raw .slice)),(43,.one (.raw (.int .i64)))],[]⟩),(17,⟨[(60,.one (.raw (.int .i64)))],[]⟩),(26,⟨[(77,.one (.raw (.int .i64)))],[]⟩)],[(22,[65])],[(28,.tk 0<| .tk 1<| .tk 2<| .tk 3<| .tk 4<| .alt 5 (.tk 6<| .nil) .done)]⟩
noncomputable def d24:aK:=⟨f24,[1],[],[],[]⟩
noncomputable def d25:aK:=⟨f25,[2,1000008,1000009],[(3,⟨[(4,.one (.raw (.int .i64)))],[]⟩)],[],[(8,.tk 0<| .tk 1<| .tk 2<| .tk 3<| .tk 4<| .tk 5<| .tk 6<| .tk 7<| .tk 8<| .tk 9<| .tk 10<| .alt 11 (.tk 12<| .tk 13<| .alt 14 (.nil) .done) .done),(9,.tk 0<| .tk 1<| .tk 2<| .tk 3<| .tk 4<| .tk 5<| .tk 6<| .tk 7<| .tk 8<| .tk 9<| .tk 10<| .tk 11<| .tk 12<| .tk 13<| .tk 14<| .tk 15<| .tk 16<| .tk 17<| .tk 18<| .tk 19<| .tk 20<| .tk 21<| .tk 22<| .tk 23<| .tk 24<| .tk 25<| .tk 26<| .tk 27<| .alt 28 (.nil) .done)]⟩
noncomputable def d26:aK:=⟨f26,[2,3],[],[],[]⟩
noncomputable def d27:aK:=⟨f27,[],[],[],[]⟩
noncomputable def d28:aK:=⟨f28,[5],[(3,⟨[(10,.one (.raw (.int .i64)))],[]⟩)],[],[]⟩
noncomputable def d29:aK:=⟨f29,[5],[(3,⟨[(10,.one (.raw (.int .i64)))],[]⟩)],[],[]⟩
noncomputable def d30:aK:=⟨f30,[],[(3,⟨[(10,.one (.raw (.int .i64)))],[]⟩)],[],[]⟩
noncomputable def d31:aK:=⟨f31,[3,1000007,1000011,1000012],[(9,⟨[(7,.one (.raw (.int .i64)))],[]⟩)],[],[(7,.tk 0<| .tk 1<| .tk 2<| .tk 3<| .tk 4<| .tk 5<| .alt 6 (.alt 7 (.tk 8<| .tk 9<| .alt 10 (.nil) .done) .done) .done),(11,.tk 0<| .tk 1<| .tk 2<| .tk 3<| .tk 4<| .tk 5<| .tk 6<| .tk 7<| .tk 8<| .tk 9<| .tk 10<| .tk 11<| .tk 12<| .tk 13<| .alt 14 (.nil) .done),(12,.tk 0<| .tk 1<| .tk 2<| .tk 3<| .tk 4<| .tk 5<| .tk 6<| .alt 7 (.nil) .done)]⟩
noncomputable def d32:aK:=⟨f32,[3,1000007,1000011,1000012],[(9,⟨[(7,.one (.raw (.int .i64)))],[]⟩)],[],[(7,.tk 0<| .tk 1<| .tk 2<| .tk 3<| .tk 4<| .tk 5<| .alt 6 (.alt 7 (.tk 8<| .tk 9<| .alt 10 (.nil) .done) .done) .done),(11,.tk 0<| .tk 1<| .tk 2<| .tk 3<| .tk 4<| .tk 5<| .tk 6<| .tk 7<| .tk 8<| .tk 9<| .tk 10<| .tk 11<| .tk 12<| .tk 13<| .alt 14 (.nil) .done),(12,.tk 0<| .tk 1<| .tk 2<| .tk 3<| .tk 4<| .tk 5<| .tk 6<| .alt 7 (.nil) .done)]⟩
noncomputable def d33:aK:=⟨f33,[1000011],[(9,⟨[(7,.one (.raw (.int .i64)))],[]⟩)],[],[(11,.tk 0<| .tk 1<| .tk 2<| .tk 3<| .tk 4<| .tk 5<| .tk 6<| .tk 7<| .tk 8<| .tk 9<| .tk 10<| .tk 11<| .tk 12<| .tk 13<| .alt 14 (.nil) .done)]⟩
noncomputable def d34:aK:=⟨f34,[7,13,19],[(3,⟨[(23,.one (.raw (.int .i64)))],[]⟩),(12,⟨[(48,.one (.raw (.int .i64)))],[]⟩),(17,⟨[],[]⟩)],[(82,[58])],[]⟩
noncomputable def d35:aK:=⟨f35,[],[],[],[]⟩
noncomputable def d36:aK:=⟨f36,[5,1000009],[(3,⟨[(3,.one (.raw (.int .i64))),(12,.one (.raw (.int .i64)))],[]⟩)],[],[(9,.tk 0<| .tk 1<| .tk 2<| .tk 3<| .tk 5<| .tk 6<| .tk 7<| .tk 8<| .ld 9 (.tk 10<| .alt 4 (.tk 11<| .tk 12<| .nil) .done)<| .alt 4 (.tk 9<| .tk 10<| .tk 11<| .tk 12<| .nil) .done)]⟩
noncomputable def d37:aK:=⟨f37,[4,6,1000001,1000012],[(4,⟨[(34,.one (.raw (.int .i64)))],[]⟩),(10,⟨[(49,.one (.raw (.int .i64)))],[]⟩)],[],[(1,.tk 0<| .tk 1<| .tk 2<| .tk 3<| .tk 4<| .tk 5<| .tk 6<| .tk 7<| .tk 8<| .tk 9<| .tk 10<| .tk 11<| .tk 13<| .tk 14<| .tk 15<| .tk 16<| .ld 17 (.tk 18<| .alt 12 (.tk 19<| .tk 20<| .nil) .done)<| .alt 12 (.tk 17<| .tk 18<| .tk 19<| .tk 20<| .nil) .done),(12,.tk 0<| .tk 1<| .tk 2<| .alt 3 (.tk 4<| .tk 5<| .tk 6<| .tk 8<| .tk 9<| .tk 10<| .tk 11<| .tk 12<| .tk 13<| .ld 7 (.alt 14 (.tk 15<| .tk 16<| .nil) .done)<| .alt 14 (.tk 7<| .tk 15<| .tk 16<| .nil) .done) .done)]⟩
noncomputable def d38:aK:=⟨f38,[4,7,9,1000017],[(2,⟨[(16,.one (.raw (.int .i64)))],[]⟩),(7,⟨[(5,.one (.raw .bool)),(29,.one (.raw (.int .i64)))],[]⟩),(15,⟨[(64,.one (.raw (.int .i64)))],[]⟩)],[],[(17,.tk 0<| .tk 1<| .tk 2<| .tk 3<| .tk 4<| .tk 5<| .tk 6<| .tk 7<| .tk 9<| .tk 10<| .tk 11<| .tk 12<| .ld 8 (.alt 13 (.alt 14 (.tk 15<| .tk 16<| .tk 17<| .tk 18<| .tk 19<| .tk 21<| .tk 22<| .tk 23<| .tk 24<| .ld 20 (.alt 25 (.alt 26 (.tk 27<| .tk 28<| .tk 29<| .nil) .done) .done)<| .alt 25 (.tk 20<| .alt 26 (.tk 27<| .tk 28<| .tk 29<| .nil) .done) .done) .done) .done)<| .alt 13 (.tk 8<| .alt 14 (.tk 15<| .tk 16<| .tk 17<| .tk 18<| .tk 19<| .tk 21<| .tk 22<| .tk 23<| .tk 24<| .ld 20 (.alt 25 (.alt 26 (.tk 27<| .tk 28<| .tk 29<| .nil) .done) .done)<| .alt 25 (.tk 20<| .alt 26 (.tk 27<| .tk 28<| .tk 29<| .nil) .done) .done) .done) .done)]⟩
noncomputable def d39:aK:=⟨f39,[5,7],[(3,⟨[(15,.one (.raw (.int .i64)))],[]⟩),(8,⟨[(30,.one (.raw (.int .i64)))],[]⟩)],[],[]⟩
noncomputable def d40:aK:=⟨f40,[4,6,1000004],[(7,⟨[(35,.one (.raw (.int .i64)))],[]⟩)],[(15,[60])],[(4,.tk 0<| .tk 1<| .tk 2<| .alt 3 (.tk 4<| .tk 5<| .tk 6<| .tk 7<| .tk 8<| .tk 9<| .alt 10 (.tk 11<| .tk 12<| .nil) .done) .done)]⟩
noncomputable def d41:aK:=⟨f41,[4,1000004],[(2,⟨[(11,.one (.raw (.int .i64)))],[]⟩)],[],[(4,.tk 0<| .tk 1<| .tk 2<| .tk 3<| .tk 4<| .tk 5<| .tk 6<| .tk 7<| .tk 8<| .tk 9<| .tk 10<| .tk 11<| .tk 12<| .tk 13<| .tk 14<| .tk 15<| .tk 16<| .tk 17<| .tk 18<| .tk 19<| .tk 20<| .alt 21 (.tk 22<| .tk 23<| .nil) .done)]⟩
noncomputable def d42:aK:=⟨f42,[1000001],[(4,⟨[(27,.one (.raw (.int .i64)))],[]⟩),(7,⟨[(33,.one (.raw (.int .i64)))],[]⟩)],[],[(1,.tk 0<| .tk 1<| .tk 2<| .tk 3<| .tk 4<| .tk 5<| .tk 6<| .tk 7<| .tk 8<| .tk 9<| .tk 10<| .tk 11<| .tk 12<| .tk 13<| .nil)]⟩
noncomputable def d55:aK:=⟨f55,[5,11,1000015],[(13,⟨[(40,.one (.raw (.int .i64)))],[]⟩)],[(13,[60]),(20,[53]),(30,[63,183])],[(15,.tk 0<| .tk 1<| .tk 3<| .tk 4<| .ld 2 (.alt 5 (.tk 6<| .alt 7 (.tk 8<| .nil) .done) .done)<| .alt 5 (.tk 2<| .tk 6<| .alt 7 (.tk 8<| .nil) .done) .done)]⟩
noncomputable def d56:aK:=⟨f56,[],[(3,⟨[(10,.one (.raw (.int .i64)))],[]⟩)],[],[]⟩
noncomputable def d67:aK:=⟨f67,[1,1000003,1000009],[],[],[(3,.ld 0 (.alt 1 (.tk 2<| .alt 3 (.tk 4<| .nil) .done) .done)<| .alt 1 (.tk 0<| .tk 2<| .alt 3 (.tk 4<| .nil) .done) .done),(9,.tk 0<| .tk 1<| .tk 2<| .tk 3<| .tk 4<| .tk 5<| .alt 6 (.tk 7<| .tk 8<| .tk 9<| .tk 10<| .tk 11<| .nil) .done)]⟩
noncomputable def d68:aK:=⟨f68,[],[],[],[]⟩
noncomputable def d69:aK:=⟨f69,[],[],[],[]⟩
noncomputable def d70:aK:=⟨f70,[2,4,5,7,10,11,1000001],[],[(27,[60]),(39,[159]),(51,[3,76]),(67,[3]),(83,[69]),(95,[53])],[(1,.tk 0<| .tk 1<| .tk 2<| .tk 3<| .ld 5 (.tk 6<| .tk 7<| .ld 8 (.alt 4 (.tk 9<| .alt 10 (.alt 11 (.nil) .done) .done) (.alt 10 (.alt 4 (.tk 9<| .alt 11 (.nil) .done) .done) .done))<| .alt 4 (.tk 8<| .tk 9<| .alt 10 (.alt 11 (.nil) .done) .done) (.alt 10 (.alt 4 (.tk 8<| .tk 9<| .alt 11 (.nil) .done) .done) .done))<| .alt 4 (.tk 5<| .tk 6<| .tk 7<| .tk 8<| .tk 9<| .alt 10 (.alt 11 (.nil) .done) .done) (.alt 10 (.alt 4 (.tk 5<| .tk 6<| .tk 7<| .tk 8<| .tk 9<| .alt 11 (.nil) .done) .done) .done))]⟩
noncomputable def d71:aK:=⟨f71,[],[],[],[]⟩
noncomputable def d73:aK:=⟨f73,[1000001],[],[],[(1,.tk 0<| .tk 1<| .tk 2<| .tk 3<| .tk 4<| .tk 5<| .tk 6<| .tk 8<| .tk 9<| .tk 10<| .ld 11 (.alt 7 (.alt 12 (.tk 13<| .tk 14<| .alt 15 (.nil) .done) .done) .done)<| .alt 7 (.tk 11<| .alt 12 (.tk 13<| .tk 14<| .alt 15 (.nil) .done) .done) .done)]⟩
noncomputable def d74:aK:=⟨f74,[3,1000001,1000004],[(2,⟨[(6,.one (.raw (.int .i64))),(7,.one (.raw (.int .i64)))],[]⟩)],[],[(1,.tk 0<| .tk 1<| .tk 2<| .tk 3<| .tk 4<| .tk 5<| .tk 6<| .nil),(4,.tk 0<| .tk 1<| .tk 2<| .tk 3<| .tk 4<| .tk 5<| .tk 6<| .tk 7<| .tk 8<| .alt 9 (.tk 10<| .nil) .done)]⟩
noncomputable def d75:aK:=⟨f75,[1000001],[],[],[(1,.tk 0<| .tk 1<| .tk 2<| .tk 3<| .tk 4<| .tk 5<| .tk 6<| .tk 8<| .tk 9<| .tk 10<| .ld 11 (.alt 7 (.alt 12 (.tk 13<| .tk 14<| .alt 15 (.nil) .done) .done) .done)<| .alt 7 (.tk 11<| .alt 12 (.tk 13<| .tk 14<| .alt 15 (.nil) .done) .done) .done)]⟩
noncomputable def d76:aK:=⟨f76,[1000001],[(2,⟨[(6,.one (.raw (.int .i64))),(7,.one (.raw (.int .i64)))],[]⟩)],[],[(1,.tk 0<| .tk 1<| .tk 2<| .tk 3<| .tk 4<| .tk 5<| .tk 6<| .nil)]⟩
noncomputable def d77:aK:=⟨f77,[1000001],[],[],[(1,.tk 0<| .tk 1<| .tk 2<| .tk 3<| .tk 4<| .tk 5<| .tk 6<| .tk 8<| .tk 9<| .tk 10<| .ld 11 (.alt 7 (.alt 12 (.tk 13<| .tk 14<| .alt 15 (.nil) .done) .done) .done)<| .alt 7 (.tk 11<| .alt 12 (.tk 13<| .tk 14<| .alt 15 (.nil) .done) .done) .done)]⟩
noncomputable def d78:aK:=⟨f78,[],[],[],[]⟩
noncomputable def d79:aK:=⟨f79,[3,1000004],[],[],[(4,.tk 0<| .tk 1<| .tk 2<| .tk 4<| .ld 3 (.alt 5 (.alt 6 (.tk 7<| .tk 8<| .tk 9<| .alt 10 (.alt 11 (.tk 12<| .nil) .done) .done) (.alt 10 (.alt 6 (.tk 7<| .tk 8<| .tk 9<| .alt 11 (.tk 12<| .nil) .done) .done) .done)) (.alt 10 (.alt 5 (.alt 6 (.tk 7<| .tk 8<| .tk 9<| .alt 11 (.tk 12<| .nil) .done) .done) .done) .done))<| .alt 5 (.tk 3<| .alt 6 (.tk 7<| .tk 8<| .tk 9<| .alt 10 (.alt 11 (.tk 12<| .nil) .done) .done) (.alt 10 (.alt 6 (.tk 7<| .tk 8<| .tk 9<| .alt 11 (.tk 12<| .nil) .done) .done) .done)) (.alt 10 (.alt 5 (.tk 3<| .alt 6 (.tk 7<| .tk 8<| .tk 9<| .alt 11 (.tk 12<| .nil) .done) .done) .done) .done))]⟩
noncomputable def d80:aK:=⟨f80,[4,1000003,1000005,1000006,1000007],[],[],[(3,.tk 0<| .tk 1<| .tk 2<| .tk 4<| .ld 3 (.alt 5 (.alt 6 (.tk 7<| .tk 8<| .tk 9<| .alt 10 (.alt 11 (.tk 12<| .nil) .done) .done) (.alt 10 (.alt 6 (.tk 7<| .tk 8<| .tk 9<| .alt 11 (.tk 12<| .nil) .done) .done) .done)) (.alt 10 (.alt 5 (.alt 6 (.tk 7<| .tk 8<| .tk 9<| .alt 11 (.tk 12<| .nil) .done) .done) .done) .done))<| .alt 5 (.tk 3<| .alt 6 (.tk 7<| .tk 8<| .tk 9<| .alt 10 (.alt 11 (.tk 12<| .nil) .done) .done) (.alt 10 (.alt 6 (.tk 7<| .tk 8<| .tk 9<| .alt 11 (.tk 12<| .nil) .done) .done) .done)) (.alt 10 (.alt 5 (.tk 3<| .alt 6 (.tk 7<| .tk 8<| .tk 9<| .alt 11 (.tk 12<| .nil) .done) .done) .done) .done)),(5,.tk 0<| .tk 1<| .tk 2<| .tk 3<| .tk 4<| .tk 5<| .tk 6<| .alt 7 (.tk 8<| .nil) .done),(6,.tk 0<| .tk 1<| .tk 2<| .tk 3<| .tk 4<| .alt 5 (.nil) .done),(7,.tk 0<| .tk 1<| .tk 2<| .tk 3<| .tk 4<| .tk 5<| .tk 6<| .tk 7<| .alt 8 (.nil) .done)]⟩
noncomputable def d81:aK:=⟨f81,[4],[],[(12,[60])],[]⟩
noncomputable def d82:aK:=⟨f82,[3,1000004],[],[],[(4,.tk 0<| .tk 1<| .tk 2<| .tk 4<| .ld 3 (.alt 5 (.alt 6 (.tk 7<| .tk 8<| .tk 9<| .alt 10 (.alt 11 (.tk 12<| .nil) .done) .done) (.alt 10 (.alt 6 (.tk 7<| .tk 8<| .tk 9<| .alt 11 (.tk 12<| .nil) .done) .done) .done)) (.alt 10 (.alt 5 (.alt 6 (.tk 7<| .tk 8<| .tk 9<| .alt 11 (.tk 12<| .nil) .done) .done) .done) .done))<| .alt 5 (.tk 3<| .alt 6 (.tk 7<| .tk 8<| .tk 9<| .alt 10 (.alt 11 (.tk 12<| .nil) .done) .done) (.alt 10 (.alt 6 (.tk 7<| .tk 8<| .tk 9<| .alt 11 (.tk 12<| .nil) .done) .done) .done)) (.alt 10 (.alt 5 (.tk 3<| .alt 6 (.tk 7<| .tk 8<| .tk 9<| .alt 11 (.tk 12<| .nil) .done) .done) .done) .done))]⟩
noncomputable def d83:aK:=⟨f83,[],[],[],[]⟩
noncomputable def d84:aK:=⟨f84,[4],[(1,⟨[(7,.one (.raw (.int .i64)))],[]⟩)],[],[]⟩
noncomputable def d85:aK:=⟨f85,[],[],[],[]⟩
noncomputable def d86:aK:=⟨f86,[],[],[],[]⟩
noncomputable def d87:aK:=⟨f87,[3,1000001],[],[],[(1,.tk 0<| .tk 1<| .tk 2<| .tk 3<| .tk 4<| .alt 5 (.tk 6<| .tk 7<| .tk 8<| .tk 9<| .tk 10<| .nil) .done)]⟩
noncomputable def d88:aK:=⟨f88,[3],[],[],[]⟩
noncomputable def d89:aK:=⟨f89,[1],[],[],[]⟩
noncomputable def d93:aK:=⟨f93,[6,1000005],[(3,⟨[(12,.one (.raw (.int .i64)))],[]⟩)],[],[(5,.tk 0<| .tk 2<| .tk 4<| .tk 6<| .ld 1 (.ld 3 (.ld 5 (.alt 7 (.tk 8<| .alt 9 (.alt 10 (.nil) .done) .done) (.alt 9 (.alt 7 (.tk 8<| .alt 10 (.nil) .done) .done) .done))<| .alt 7 (.tk 5<| .tk 8<| .alt 9 (.alt 10 (.nil) .done) .done) (.alt 9 (.alt 7 (.tk 5<| .tk 8<| .alt 10 (.nil) .done) .done) .done))<| .ld 5 (.alt 7 (.tk 3<| .tk 8<| .alt 9 (.alt 10 (.nil) .done) .done) (.alt 9 (.alt 7 (.tk 3<| .tk 8<| .alt 10 (.nil) .done) .done) .done))<| .alt 7 (.tk 3<| .tk 5<| .tk 8<| .alt 9 (.alt 10 (.nil) .done) .done) (.alt 9 (.alt 7 (.tk 3<| .tk 5<| .tk 8<| .alt 10 (.nil) .done) .done) .done))<| .ld 3 (.ld 5 (.alt 7 (.tk 1<| .tk 8<| .alt 9 (.alt 10 (.nil) .done) .done) (.alt 9 (.alt 7 (.tk 1<| .tk 8<| .alt 10 (.nil) .done) .done) .done))<| .alt 7 (.tk 1<| .tk 5<| .tk 8<| .alt 9 (.alt 10 (.nil) .done) .done) (.alt 9 (.alt 7 (.tk 1<| .tk 5<| .tk 8<| .alt 10 (.nil) .done) .done) .done))<| .ld 5 (.alt 7 (.tk 1<| .tk 3<| .tk 8<| .alt 9 (.alt 10 (.nil) .done) .done) (.alt 9 (.alt 7 (.tk 1<| .tk 3<| .tk 8<| .alt 10 (.nil) .done) .done) .done))<| .alt 7 (.tk 1<| .tk 3<| .tk 5<| .tk 8<| .alt 9 (.alt 10 (.nil) .done) .done) (.alt 9 (.alt 7 (.tk 1<| .tk 3<| .tk 5<| .tk 8<| .alt 10 (.nil) .done) .done) .done))]⟩
noncomputable def d94:aK:=⟨f94,[],[],[],[]⟩
noncomputable def d114:aK:=⟨f114,[1,4],[(2,⟨[(33,.one (.raw (.int .i64)))],[]⟩)],[],[]⟩
noncomputable def d115:aK:=⟨f115,[],[],[],[]⟩
noncomputable def d116:aK:=⟨f116,[],[],[],[]⟩
noncomputable def d117:aK:=⟨f117,[],[],[],[]⟩
noncomputable def d118:aK:=⟨f118,[],[],[],[]⟩
noncomputable def d119:aK:=⟨f119,[],[],[],[]⟩
noncomputable def d120:aK:=⟨f120,[],[],[],[]⟩
noncomputable def d121:aK:=⟨f121,[14,1000023],[(6,⟨[(7,.one (.raw .slice)),(25,.one (.raw (.int .i64)))],[]⟩),(15,⟨[(11,.one (.raw .slice)),(41,.one (.raw (.int .i64)))],[]⟩)],[],[(23,.tk 0<| .tk 1<| .tk 2<| .tk 3<| .tk 4<| .tk 5<| .tk 7<| .tk 8<| .tk 9<| .tk 10<| .tk 11<| .tk 12<| .tk 13<| .tk 14<| .tk 15<| .alt 6 (.tk 16<| .alt 17 (.tk 18<| .tk 19<| .nil) .done) .done)]⟩
noncomputable def d122:aK:=⟨f122,[7,14,1000006,1000014],[(2,⟨[(3,.one (.raw .ptr))],[]⟩),(21,⟨[(12,.one (.raw .slice)),(77,.one (.raw (.int .i64)))],[]⟩)],[(49,[60])],[(6,.tk 0<| .tk 1<| .tk 2<| .tk 4<| .tk 5<| .ld 3 (.alt 6 (.alt 7 (.tk 8<| .nil) .done) .done)<| .alt 6 (.tk 3<| .alt 7 (.tk 8<| .nil) .done) .done),(14,.tk 0<| .tk 1<| .tk 2<| .tk 3<| .tk 4<| .alt 5 (.tk 6<| .tk 7<| .tk 8<| .tk 9<| .tk 10<| .tk 11<| .tk 12<| .nil) .done)]⟩
noncomputable def d123:aK:=⟨f123,[],[],[],[]⟩
noncomputable def d124:aK:=⟨f124,[],[],[],[]⟩
noncomputable def d125:aK:=⟨f125,[],[],[],[]⟩
noncomputable def d126:aK:=⟨f126,[],[],[],[]⟩
noncomputable def d128:aK:=⟨f128,[],[],[],[]⟩
noncomputable def d129:aK:=⟨f129,[],[],[],[]⟩
noncomputable def d130:aK:=⟨f130,[5],[(3,⟨[(10,.one (.raw (.int .i64)))],[]⟩)],[],[]⟩
noncomputable def d131:aK:=⟨f131,[3,4,6],[],[],[]⟩
noncomputable def d132:aK:=⟨f132,[1,2],[],[],[]⟩
noncomputable def d133:aK:=⟨f133,[3,1000007,1000011,1000012],[(9,⟨[(7,.one (.raw (.int .i64)))],[]⟩)],[],[(7,.tk 0<| .tk 1<| .tk 2<| .tk 3<| .tk 4<| .tk 5<| .alt 6 (.alt 7 (.tk 8<| .tk 9<| .alt 10 (.nil) .done) .done) .done),(11,.tk 0<| .tk 1<| .tk 2<| .tk 3<| .tk 4<| .tk 5<| .tk 6<| .tk 7<| .tk 8<| .tk 9<| .tk 10<| .tk 11<| .tk 12<| .tk 13<| .alt 14 (.nil) .done),(12,.tk 0<| .tk 1<| .tk 2<| .tk 3<| .tk 4<| .tk 5<| .tk 6<| .alt 7 (.nil) .done)]⟩
noncomputable def d135:aK:=⟨f135,[],[],[],[]⟩
noncomputable def d136:aK:=⟨f136,[4,1000003,1000005,1000006,1000007],[],[],[(3,.tk 0<| .tk 1<| .tk 2<| .tk 4<| .ld 3 (.alt 5 (.alt 6 (.tk 7<| .tk 8<| .tk 9<| .alt 10 (.alt 11 (.tk 12<| .nil) .done) .done) (.alt 10 (.alt 6 (.tk 7<| .tk 8<| .tk 9<| .alt 11 (.tk 12<| .nil) .done) .done) .done)) (.alt 10 (.alt 5 (.alt 6 (.tk 7<| .tk 8<| .tk 9<| .alt 11 (.tk 12<| .nil) .done) .done) .done) .done))<| .alt 5 (.tk 3<| .alt 6 (.tk 7<| .tk 8<| .tk 9<| .alt 10 (.alt 11 (.tk 12<| .nil) .done) .done) (.alt 10 (.alt 6 (.tk 7<| .tk 8<| .tk 9<| .alt 11 (.tk 12<| .nil) .done) .done) .done)) (.alt 10 (.alt 5 (.tk 3<| .alt 6 (.tk 7<| .tk 8<| .tk 9<| .alt 11 (.tk 12<| .nil) .done) .done) .done) .done)),(5,.tk 0<| .tk 1<| .tk 2<| .tk 3<| .tk 4<| .tk 5<| .tk 6<| .alt 7 (.tk 8<| .nil) .done),(6,.tk 0<| .tk 1<| .tk 2<| .tk 3<| .tk 4<| .alt 5 (.nil) .done),(7,.tk 0<| .tk 1<| .tk 2<| .tk 3<| .tk 4<| .tk 5<| .tk 6<| .tk 7<| .alt 8 (.nil) .done)]⟩
noncomputable def d137:aK:=⟨f137,[3,4,6],[],[],[]⟩
noncomputable def d138:aK:=⟨f138,[1,2],[],[],[]⟩
noncomputable def d139:aK:=⟨f139,[],[],[],[]⟩
noncomputable def d140:aK:=⟨f140,[],[(3,⟨[(7,.one (.raw (.int .i64)))],[]⟩)],[],[]⟩
noncomputable def d141:aK:=⟨f141,[3],[],[],[]⟩
noncomputable def d142:aK:=⟨f142,[1],[],[],[]⟩
noncomputable def d143:aK:=⟨f143,[3],[],[],[]⟩
noncomputable def d145:aK:=⟨f145,[6,1000006],[],[(13,[60])],[(6,.tk 1<| .tk 2<| .tk 3<| .tk 4<| .tk 5<| .ld 0 (.alt 6 (.alt 7 (.tk 8<| .tk 9<| .alt 10 (.nil) .done) .done) .done)<| .alt 6 (.alt 7 (.tk 0<| .tk 8<| .tk 9<| .alt 10 (.nil) .done) .done) .done)]⟩
noncomputable def d146:aK:=⟨f146,[],[],[],[]⟩
noncomputable def d147:aK:=⟨f147,[],[(3,⟨[(7,.one (.raw (.int .i64)))],[]⟩)],[],[]⟩
noncomputable def d162:aK:=⟨f162,[],[],[],[]⟩
noncomputable def d163:aK:=⟨f163,[],[],[],[]⟩
noncomputable def d164:aK:=⟨f164,[],[],[],[]⟩
noncomputable def d165:aK:=⟨f165,[],[],[],[]⟩
noncomputable def d166:aK:=⟨f166,[5],[(3,⟨[(10,.one (.raw (.int .i64)))],[]⟩)],[],[]⟩
noncomputable def d167:aK:=⟨f167,[],[],[],[]⟩
noncomputable def d168:aK:=⟨f168,[],[],[],[]⟩
noncomputable def d169:aK:=⟨f169,[],[],[],[]⟩
noncomputable def d170:aK:=⟨f170,[],[],[],[]⟩
noncomputable def d171:aK:=⟨f171,[1000003],[],[],[(3,.tk 0<| .tk 1<| .tk 2<| .tk 4<| .tk 5<| .tk 6<| .tk 7<| .tk 9<| .tk 10<| .tk 11<| .ld 3 (.ld 12 (.alt 8 (.alt 13 (.tk 14<| .alt 15 (.tk 16<| .nil) .done) .done) .done)<| .alt 8 (.tk 12<| .alt 13 (.tk 14<| .alt 15 (.tk 16<| .nil) .done) .done) .done)<| .ld 12 (.alt 8 (.ld 3 (.alt 13 (.tk 14<| .alt 15 (.tk 16<| .nil) .done) .done)<| .alt 13 (.tk 3<| .tk 14<| .alt 15 (.tk 16<| .nil) .done) .done) .done)<| .alt 8 (.tk 12<| .ld 3 (.alt 13 (.tk 14<| .alt 15 (.tk 16<| .nil) .done) .done)<| .alt 13 (.tk 3<| .tk 14<| .alt 15 (.tk 16<| .nil) .done) .done) .done)]⟩
noncomputable def d172:aK:=⟨f172,[2],[],[],[]⟩
noncomputable def d173:aK:=⟨f173,[6,9,10,1000015],[(4,⟨[(4,.one (.raw (.int .i64))),(15,.one (.raw (.int .i64)))],[]⟩),(11,⟨[(4,.one (.raw (.int .i64))),(26,.one (.raw (.int .i64)))],[]⟩)],[(53,[58])],[(15,.tk 0<| .ld 2 (.tk 3<| .tk 4<| .ld 5 (.ld 6 (.tk 7<| .tk 8<| .ld 9 (.alt 1 (.alt 10 (.tk 11<| .tk 12<| .nil) .done) .done)<| .alt 1 (.tk 9<| .alt 10 (.tk 11<| .tk 12<| .nil) .done) .done)<| .alt 1 (.tk 6<| .tk 7<| .tk 8<| .tk 9<| .alt 10 (.tk 11<| .tk 12<| .nil) .done) .done)<| .ld 6 (.tk 7<| .tk 8<| .ld 9 (.alt 1 (.ld 5 (.alt 10 (.tk 11<| .tk 12<| .nil) .done)<| .alt 10 (.tk 5<| .tk 11<| .tk 12<| .nil) .done) .done)<| .alt 1 (.tk 9<| .ld 5 (.alt 10 (.tk 11<| .tk 12<| .nil) .done)<| .alt 10 (.tk 5<| .tk 11<| .tk 12<| .nil) .done) .done)<| .alt 1 (.tk 6<| .tk 7<| .tk 8<| .tk 9<| .ld 5 (.alt 10 (.tk 11<| .tk 12<| .nil) .done)<| .alt 10 (.tk 5<| .tk 11<| .tk 12<| .nil) .done) .done)<| .ld 6 (.tk 7<| .tk 8<| .ld 9 (.alt 1 (.ld 2 (.tk 3<| .tk 4<| .ld 5 (.alt 10 (.tk 11<| .tk 12<| .nil) .done)<| .alt 10 (.tk 5<| .tk 11<| .tk 12<| .nil) .done)<| .alt 10 (.tk 2<| .tk 3<| .tk 4<| .tk 5<| .tk 11<| .tk 12<| .nil) .done) .done)<| .alt 1 (.tk 9<| .ld 2 (.tk 3<| .tk 4<| .ld 5 (.alt 10 (.tk 11<| .tk 12<| .nil) .done)<| .alt 10 (.tk 5<| .tk 11<| .tk 12<| .nil) .done)<| .alt 10 (.tk 2<| .tk 3<| .tk 4<| .tk 5<| .tk 11<| .tk 12<| .nil) .done) .done)<| .alt 1 (.tk 6<| .tk 7<| .tk 8<| .tk 9<| .ld 2 (.tk 3<| .tk 4<| .ld 5 (.alt 10 (.tk 11<| .tk 12<| .nil) .done)<| .alt 10 (.tk 5<| .tk 11<| .tk 12<| .nil) .done)<| .alt 10 (.tk 2<| .tk 3<| .tk 4<| .tk 5<| .tk 11<| .tk 12<| .nil) .done) .done)]⟩
noncomputable def d174:aK:=⟨f174,[4,7,1000004],[],[],[(4,.tk 0<| .tk 1<| .tk 2<| .tk 3<| .tk 5<| .tk 6<| .tk 7<| .ld 8 (.alt 4 (.tk 9<| .tk 10<| .tk 11<| .tk 12<| .tk 13<| .nil) .done)<| .alt 4 (.tk 8<| .tk 9<| .tk 10<| .tk 11<| .tk 12<| .tk 13<| .nil) .done)]⟩
noncomputable def d175:aK:=⟨f175,[6,8,9,11,1000016],[(8,⟨[(30,.one (.raw (.int .i64)))],[]⟩)],[(21,[60]),(43,[60]),(56,[60])],[(16,.tk 0<| .tk 1<| .tk 2<| .tk 3<| .ld 5 (.alt 4 (.alt 6 (.alt 7 (.nil) .done) .done) .done)<| .alt 4 (.tk 5<| .alt 6 (.alt 7 (.nil) .done) .done) .done)]⟩
noncomputable def d176:aK:=⟨f176,[6,1000004],[],[(12,[3,76])],[(4,.tk 0<| .tk 1<| .tk 2<| .tk 3<| .tk 4<| .tk 6<| .tk 9<| .ld 5 (.ld 7 (.ld 10 (.alt 8 (.tk 11<| .alt 12 (.tk 13<| .tk 14<| .nil) .done) .done)<| .alt 8 (.tk 10<| .tk 11<| .alt 12 (.tk 13<| .tk 14<| .nil) .done) .done)<| .ld 10 (.alt 8 (.tk 7<| .tk 11<| .alt 12 (.tk 13<| .tk 14<| .nil) .done) .done)<| .alt 8 (.tk 7<| .tk 10<| .tk 11<| .alt 12 (.tk 13<| .tk 14<| .nil) .done) .done)<| .ld 7 (.ld 10 (.alt 8 (.tk 5<| .tk 11<| .alt 12 (.tk 13<| .tk 14<| .nil) .done) .done)<| .alt 8 (.tk 5<| .tk 10<| .tk 11<| .alt 12 (.tk 13<| .tk 14<| .nil) .done) .done)<| .ld 10 (.alt 8 (.tk 5<| .tk 7<| .tk 11<| .alt 12 (.tk 13<| .tk 14<| .nil) .done) .done)<| .alt 8 (.tk 5<| .tk 7<| .tk 10<| .tk 11<| .alt 12 (.tk 13<| .tk 14<| .nil) .done) .done)]⟩
noncomputable def d179:aK:=⟨f179,[],[],[(11,[3]),(20,[294,295])],[]⟩
noncomputable def d180:aK:=⟨f180,[],[],[],[]⟩
noncomputable def d181:aK:=⟨f181,[9,11,13,14,17,18,1000012,1000027,1000033],[(3,⟨[(6,.one (.raw (.int .i64))),(24,.one (.raw (.int .i64)))],[]⟩),(9,⟨[(6,.one (.raw (.int .i64))),(34,.one (.raw (.int .i64)))],[]⟩),(21,⟨[(77,.one (.raw (.int .i64)))],[]⟩)],[(54,[360,60]),(87,[60])],[(12,.tk 0<| .ld 2 (.tk 3<| .tk 4<| .ld 5 (.alt 1 (.tk 6<| .nil) .done)<| .alt 1 (.tk 5<| .tk 6<| .nil) .done)<| .alt 1 (.tk 2<| .tk 3<| .tk 4<| .tk 5<| .tk 6<| .nil) .done),(27,.tk 0<| .tk 1<| .tk 2<| .tk 3<| .tk 4<| .alt 5 (.tk 6<| .tk 7<| .tk 8<| .tk 9<| .tk 10<| .nil) .done),(33,.tk 0<| .ld 1 (.alt 2 (.alt 3 (.tk 4<| .nil) .done) .done)<| .alt 2 (.tk 1<| .alt 3 (.tk 4<| .nil) .done) .done)]⟩
noncomputable def d182:aK:=⟨f182,[1000001],[],[],[(1,.tk 0<| .tk 1<| .tk 2<| .tk 3<| .tk 5<| .tk 6<| .tk 7<| .ld 8 (.alt 4 (.alt 9 (.alt 10 (.tk 11<| .nil) .done) .done) .done)<| .alt 4 (.tk 8<| .alt 9 (.alt 10 (.tk 11<| .nil) .done) .done) .done)]⟩
noncomputable def d183:aK:=⟨f183,[],[],[],[]⟩
noncomputable def d185:aK:=⟨f185,[8,12,16,17,22,25,31,32,33,1000040,1000045,1000046],[(2,⟨[(6,.one (.raw (.int .i64))),(36,.one (.raw (.int .i64)))],[]⟩),(9,⟨[(6,.one (.raw (.int .i64))),(52,.one (.raw (.int .i64)))],[]⟩),(17,⟨[(6,.one (.raw (.int .i64))),(74,.one (.raw (.int .i64)))],[]⟩),(28,⟨[(111,.one (.raw (.int .i64)))],[]⟩),(35,⟨[(126,.one (.raw (.int .i64)))],[]⟩)],[(106,[315]),(121,[315]),(154,[320,322]),(186,[315]),(192,[315])],[(40,.tk 0<| .tk 1<| .tk 2<| .tk 3<| .tk 4<| .tk 5<| .tk 6<| .tk 7<| .tk 8<| .tk 9<| .tk 10<| .tk 11<| .tk 12<| .alt 13 (.tk 14<| .nil) .done),(45,.tk 0<| .tk 1<| .tk 2<| .tk 3<| .tk 4<| .tk 5<| .tk 6<| .tk 7<| .tk 8<| .tk 9<| .tk 10<| .tk 11<| .tk 12<| .tk 13<| .alt 14 (.nil) .done),(46,.tk 0<| .tk 1<| .tk 2<| .tk 3<| .tk 4<| .tk 5<| .nil)]⟩
noncomputable def d186:aK:=⟨f186,[4],[],[(10,[360,60])],[]⟩
noncomputable def d187:aK:=⟨f187,[],[],[],[]⟩
noncomputable def d188:aK:=⟨f188,[],[],[],[]⟩
noncomputable def d189:aK:=⟨f189,[],[],[],[]⟩
noncomputable def d190:aK:=⟨f190,[4],[(1,⟨[(10,.one (.raw (.int .i64)))],[]⟩)],[],[]⟩
noncomputable def d191:aK:=⟨f191,[1,2],[],[],[]⟩
noncomputable def d195:aK:=⟨f195,[4,1000003],[],[(10,[327,69])],[(3,.tk 1<| .ld 0 (.alt 2 (.alt 3 (.tk 4<| .nil) .done) .done)<| .alt 2 (.tk 0<| .alt 3 (.tk 4<| .nil) .done) .done)]⟩
noncomputable def d196:aK:=⟨f196,[],[],[],[]⟩
noncomputable def d198:aK:=⟨f198,[4,1000003],[],[(10,[320,322])],[(3,.tk 1<| .tk 2<| .ld 0 (.alt 3 (.alt 4 (.tk 5<| .nil) .done) .done)<| .alt 3 (.tk 0<| .alt 4 (.tk 5<| .nil) .done) .done)]⟩
noncomputable def d199:aK:=⟨f199,[],[],[],[]⟩
noncomputable def d201:aK:=⟨f201,[3,1000001,1000004],[(2,⟨[(6,.one (.raw (.int .i64))),(7,.one (.raw (.int .i64)))],[]⟩)],[],[(1,.tk 0<| .tk 1<| .tk 2<| .tk 3<| .tk 4<| .tk 5<| .tk 6<| .nil),(4,.tk 0<| .tk 1<| .tk 2<| .tk 3<| .tk 4<| .tk 5<| .tk 6<| .tk 7<| .tk 8<| .alt 9 (.tk 10<| .nil) .done)]⟩
noncomputable def d202:aK:=⟨f202,[1000001],[],[],[(1,.tk 0<| .tk 1<| .tk 2<| .tk 3<| .tk 4<| .tk 5<| .tk 6<| .tk 8<| .tk 9<| .tk 10<| .ld 11 (.alt 7 (.alt 12 (.tk 13<| .tk 14<| .alt 15 (.nil) .done) .done) .done)<| .alt 7 (.tk 11<| .alt 12 (.tk 13<| .tk 14<| .alt 15 (.nil) .done) .done) .done)]⟩
noncomputable def d203:aK:=⟨f203,[5],[(3,⟨[(10,.one (.raw (.int .i64)))],[]⟩)],[],[]⟩
noncomputable def d204:aK:=⟨f204,[3,1000007,1000011,1000012],[(9,⟨[(7,.one (.raw (.int .i64)))],[]⟩)],[],[(7,.tk 0<| .tk 1<| .tk 2<| .tk 3<| .tk 4<| .tk 5<| .alt 6 (.alt 7 (.tk 8<| .tk 9<| .alt 10 (.nil) .done) .done) .done),(11,.tk 0<| .tk 1<| .tk 2<| .tk 3<| .tk 4<| .tk 5<| .tk 6<| .tk 7<| .tk 8<| .tk 9<| .tk 10<| .tk 11<| .tk 12<| .tk 13<| .alt 14 (.nil) .done),(12,.tk 0<| .tk 1<| .tk 2<| .tk 3<| .tk 4<| .tk 5<| .tk 6<| .alt 7 (.nil) .done)]⟩
noncomputable def d206:aK:=⟨f206,[3,1000001,1000004],[(2,⟨[(6,.one (.raw (.int .i64))),(7,.one (.raw (.int .i64)))],[]⟩)],[],[(1,.tk 0<| .tk 1<| .tk 2<| .tk 3<| .tk 4<| .tk 5<| .tk 6<| .nil),(4,.tk 0<| .tk 1<| .tk 2<| .tk 3<| .tk 4<| .tk 5<| .tk 6<| .tk 7<| .tk 8<| .alt 9 (.tk 10<| .nil) .done)]⟩
noncomputable def d208:aK:=⟨f208,[],[(4,⟨[(3,.one (.raw (.int .i64)))],[]⟩)],[],[]⟩
noncomputable def d224:aK:=⟨f224,[5],[(3,⟨[(10,.one (.raw (.int .i64)))],[]⟩)],[],[]⟩
noncomputable def d225:aK:=⟨f225,[5],[(3,⟨[(10,.one (.raw (.int .i64)))],[]⟩)],[],[]⟩
noncomputable def d226:aK:=⟨f226,[],[],[],[]⟩
noncomputable def d227:aK:=⟨f227,[],[],[],[]⟩
noncomputable def d228:aK:=⟨f228,[],[],[],[]⟩
noncomputable def d229:aK:=⟨f229,[],[],[],[]⟩
noncomputable def d230:aK:=⟨f230,[3,1000007,1000011,1000012],[(9,⟨[(7,.one (.raw (.int .i64)))],[]⟩)],[],[(7,.tk 0<| .tk 1<| .tk 2<| .tk 3<| .tk 4<| .tk 5<| .alt 6 (.alt 7 (.tk 8<| .tk 9<| .alt 10 (.nil) .done) .done) .done),(11,.tk 0<| .tk 1<| .tk 2<| .tk 3<| .tk 4<| .tk 5<| .tk 6<| .tk 7<| .tk 8<| .tk 9<| .tk 10<| .tk 11<| .tk 12<| .tk 13<| .alt 14 (.nil) .done),(12,.tk 0<| .tk 1<| .tk 2<| .tk 3<| .tk 4<| .tk 5<| .tk 6<| .alt 7 (.nil) .done)]⟩
noncomputable def d231:aK:=⟨f231,[5],[(3,⟨[(10,.one (.raw (.int .i64)))],[]⟩)],[],[]⟩
noncomputable def d232:aK:=⟨f232,[5],[(3,⟨[(10,.one (.raw (.int .i64)))],[]⟩)],[],[]⟩
noncomputable def d233:aK:=⟨f233,[5],[(3,⟨[(10,.one (.raw (.int .i64)))],[]⟩)],[],[]⟩
noncomputable def d234:aK:=⟨f234,[5],[(3,⟨[(10,.one (.raw (.int .i64)))],[]⟩)],[],[]⟩
noncomputable def d235:aK:=⟨f235,[],[],[],[]⟩
noncomputable def d236:aK:=⟨f236,[],[],[],[]⟩
noncomputable def d237:aK:=⟨f237,[1],[],[],[]⟩
noncomputable def d238:aK:=⟨f238,[3,1000003],[],[],[(3,.tk 0<| .tk 1<| .tk 2<| .tk 3<| .tk 4<| .alt 5 (.tk 6<| .tk 7<| .tk 8<| .tk 9<| .tk 10<| .nil) .done)]⟩
noncomputable def d239:aK:=⟨f239,[3,1000001,1000002,1000003],[],[],[(1,.tk 0<| .tk 1<| .tk 2<| .tk 3<| .tk 4<| .alt 5 (.nil) .done),(2,.tk 0<| .tk 1<| .tk 2<| .tk 3<| .tk 4<| .tk 6<| .tk 7<| .tk 8<| .tk 9<| .ld 5 (.alt 10 (.tk 11<| .tk 12<| .nil) .done)<| .alt 10 (.tk 5<| .tk 11<| .tk 12<| .nil) .done),(3,.tk 0<| .tk 1<| .tk 2<| .tk 3<| .tk 4<| .tk 5<| .tk 6<| .tk 7<| .tk 8<| .tk 9<| .alt 10 (.nil) .done)]⟩
noncomputable def d240:aK:=⟨f240,[],[],[],[]⟩
noncomputable def d241:aK:=⟨f241,[],[],[],[]⟩
noncomputable def d242:aK:=⟨f242,[],[],[],[]⟩
noncomputable def d243:aK:=⟨f243,[3],[],[],[]⟩
noncomputable def d244:aK:=⟨f244,[3],[],[],[]⟩
noncomputable def d245:aK:=⟨f245,[],[],[],[]⟩
noncomputable def d246:aK:=⟨f246,[],[],[],[]⟩
noncomputable def d247:aK:=⟨f247,[],[],[],[]⟩
noncomputable def d248:aK:=⟨f248,[5],[(3,⟨[(3,.one (.raw .slice)),(11,.one (.raw (.int .i64)))],[]⟩)],[],[]⟩
noncomputable def d257:aK:=⟨f257,[],[(3,⟨[(10,.one (.raw (.int .i64)))],[]⟩)],[],[]⟩
noncomputable def d259:aK:=⟨f259,[],[],[],[]⟩
noncomputable def d262:aK:=⟨f262,[6,8],[],[(15,[3]),(22,[3])],[]⟩
noncomputable def d263:aK:=⟨f263,[],[],[],[]⟩
noncomputable def d266:aK:=⟨f266,[1],[],[],[]⟩
noncomputable def d268:aK:=⟨f268,[3,1000001,1000002,1000003,1000004],[],[],[(1,.tk 0<| .tk 1<| .tk 2<| .tk 3<| .tk 4<| .alt 5 (.nil) .done),(2,.tk 0<| .tk 1<| .tk 2<| .tk 3<| .tk 4<| .tk 5<| .tk 6<| .alt 7 (.nil) .done),(3,.tk 0<| .tk 1<| .tk 2<| .tk 3<| .tk 4<| .tk 5<| .tk 6<| .alt 7 (.nil) .done),(4,.tk 0<| .tk 1<| .tk 2<| .tk 3<| .tk 4<| .tk 5<| .tk 6<| .alt 7 (.nil) .done)]⟩
noncomputable def d269:aK:=⟨f269,[7],[(3,⟨[(5,.one (.raw .slice)),(14,.one (.raw (.int .i64)))],[]⟩)],[],[]⟩
noncomputable def d271:aK:=⟨f271,[4,6],[],[],[]⟩
noncomputable def d272:aK:=⟨f272,[3],[],[],[]⟩
noncomputable def d273:aK:=⟨f273,[],[(3,⟨[(10,.one (.raw (.int .i64)))],[]⟩)],[],[]⟩
noncomputable def d274:aK:=⟨f274,[],[],[],[]⟩
noncomputable def d277:aK:=⟨f277,[3,1000001,1000002,1000005,1000007],[],[],[(1,.tk 0<| .tk 1<| .tk 2<| .tk 3<| .tk 4<| .alt 5 (.nil) .done),(2,.tk 0<| .tk 1<| .tk 2<| .tk 3<| .tk 4<| .tk 5<| .alt 6 (.tk 7<| .tk 8<| .tk 9<| .tk 10<| .tk 11<| .nil) .done),(5,.tk 0<| .tk 1<| .tk 2<| .tk 3<| .tk 4<| .tk 5<| .tk 6<| .alt 7 (.nil) .done),(7,.tk 0<| .tk 1<| .tk 2<| .tk 3<| .tk 4<| .alt 5 (.tk 6<| .tk 7<| .tk 8<| .tk 9<| .tk 10<| .nil) .done)]⟩
noncomputable def d278:aK:=⟨f278,[],[(2,⟨[(22,.one (.raw (.int .i64)))],[]⟩)],[],[]⟩
noncomputable def d279:aK:=⟨f279,[],[(1,⟨[(9,.one (.raw (.int .i64)))],[]⟩)],[],[]⟩
noncomputable def d280:aK:=⟨f280,[3],[],[(11,[506])],[]⟩
noncomputable def d281:aK:=⟨f281,[],[],[],[]⟩
noncomputable def d282:aK:=⟨f282,[4],[(1,⟨[(8,.one (.raw (.int .i64)))],[]⟩)],[],[]⟩
noncomputable def d287:aK:=⟨f287,[3],[],[(11,[452])],[]⟩
noncomputable def d288:aK:=⟨f288,[],[],[],[]⟩
noncomputable def d289:aK:=⟨f289,[3],[],[(11,[446])],[]⟩
noncomputable def d290:aK:=⟨f290,[],[],[],[]⟩
noncomputable def d292:aK:=⟨f292,[1000001],[],[],[(1,.tk 0<| .tk 1<| .tk 2<| .tk 3<| .tk 4<| .tk 5<| .tk 6<| .tk 8<| .tk 9<| .tk 10<| .ld 11 (.alt 7 (.alt 12 (.tk 13<| .tk 14<| .alt 15 (.nil) .done) .done) .done)<| .alt 7 (.tk 11<| .alt 12 (.tk 13<| .tk 14<| .alt 15 (.nil) .done) .done) .done)]⟩
noncomputable def d294:aK:=⟨f294,[],[],[],[]⟩
noncomputable def d295:aK:=⟨f295,[],[],[],[]⟩
noncomputable def d312:aK:=⟨f312,[3,1000007,1000011,1000012],[(9,⟨[(7,.one (.raw (.int .i64)))],[]⟩)],[],[(7,.tk 0<| .tk 1<| .tk 2<| .tk 3<| .tk 4<| .tk 5<| .alt 6 (.alt 7 (.tk 8<| .tk 9<| .alt 10 (.nil) .done) .done) .done),(11,.tk 0<| .tk 1<| .tk 2<| .tk 3<| .tk 4<| .tk 5<| .tk 6<| .tk 7<| .tk 8<| .tk 9<| .tk 10<| .tk 11<| .tk 12<| .tk 13<| .alt 14 (.nil) .done),(12,.tk 0<| .tk 1<| .tk 2<| .tk 3<| .tk 4<| .tk 5<| .tk 6<| .alt 7 (.nil) .done)]⟩
noncomputable def d313:aK:=⟨f313,[5],[(3,⟨[(10,.one (.raw (.int .i64)))],[]⟩)],[],[]⟩
noncomputable def d314:aK:=⟨f314,[5],[(3,⟨[(10,.one (.raw (.int .i64)))],[]⟩)],[],[]⟩
noncomputable def d315:aK:=⟨f315,[5],[(3,⟨[(10,.one (.raw (.int .i64)))],[]⟩)],[],[]⟩
noncomputable def d316:aK:=⟨f316,[5],[(3,⟨[(10,.one (.raw (.int .i64)))],[]⟩)],[],[]⟩
noncomputable def d317:aK:=⟨f317,[3,1000001,1000004],[(2,⟨[(6,.one (.raw (.int .i64))),(7,.one (.raw (.int .i64)))],[]⟩)],[],[(1,.tk 0<| .tk 1<| .tk 2<| .tk 3<| .tk 4<| .tk 5<| .tk 6<| .nil),(4,.tk 0<| .tk 1<| .tk 2<| .tk 3<| .tk 4<| .tk 5<| .tk 6<| .tk 7<| .tk 8<| .alt 9 (.tk 10<| .nil) .done)]⟩
noncomputable def d318:aK:=⟨f318,[1000001],[],[],[(1,.tk 0<| .tk 1<| .tk 2<| .tk 3<| .tk 4<| .tk 5<| .tk 6<| .tk 8<| .tk 9<| .tk 10<| .ld 11 (.alt 7 (.alt 12 (.tk 13<| .tk 14<| .alt 15 (.nil) .done) .done) .done)<| .alt 7 (.tk 11<| .alt 12 (.tk 13<| .tk 14<| .alt 15 (.nil) .done) .done) .done)]⟩
noncomputable def d319:aK:=⟨f319,[3,1000007,1000011,1000012],[(9,⟨[(7,.one (.raw (.int .i64)))],[]⟩)],[],[(7,.tk 0<| .tk 1<| .tk 2<| .tk 3<| .tk 4<| .tk 5<| .alt 6 (.alt 7 (.tk 8<| .tk 9<| .alt 10 (.nil) .done) .done) .done),(11,.tk 0<| .tk 1<| .tk 2<| .tk 3<| .tk 4<| .tk 5<| .tk 6<| .tk 7<| .tk 8<| .tk 9<| .tk 10<| .tk 11<| .tk 12<| .tk 13<| .alt 14 (.nil) .done),(12,.tk 0<| .tk 1<| .tk 2<| .tk 3<| .tk 4<| .tk 5<| .tk 6<| .alt 7 (.nil) .done)]⟩
noncomputable def d323:aK:=⟨f323,[],[],[],[]⟩
noncomputable def d324:aK:=⟨f324,[1000003,1000006,1000007],[],[],[(3,.tk 0<| .tk 1<| .tk 2<| .tk 4<| .ld 3 (.alt 5 (.alt 6 (.tk 7<| .tk 8<| .tk 9<| .alt 10 (.alt 11 (.tk 12<| .nil) .done) .done) (.alt 10 (.alt 6 (.tk 7<| .tk 8<| .tk 9<| .alt 11 (.tk 12<| .nil) .done) .done) .done)) (.alt 10 (.alt 5 (.alt 6 (.tk 7<| .tk 8<| .tk 9<| .alt 11 (.tk 12<| .nil) .done) .done) .done) .done))<| .alt 5 (.tk 3<| .alt 6 (.tk 7<| .tk 8<| .tk 9<| .alt 10 (.alt 11 (.tk 12<| .nil) .done) .done) (.alt 10 (.alt 6 (.tk 7<| .tk 8<| .tk 9<| .alt 11 (.tk 12<| .nil) .done) .done) .done)) (.alt 10 (.alt 5 (.tk 3<| .alt 6 (.tk 7<| .tk 8<| .tk 9<| .alt 11 (.tk 12<| .nil) .done) .done) .done) .done)),(6,.tk 0<| .tk 1<| .tk 2<| .tk 3<| .tk 4<| .alt 5 (.nil) .done),(7,.tk 0<| .tk 1<| .tk 2<| .tk 3<| .tk 4<| .tk 5<| .tk 6<| .tk 7<| .alt 8 (.nil) .done)]⟩
noncomputable def d325:aK:=⟨f325,[1000004],[],[],[(4,.tk 0<| .tk 1<| .tk 2<| .tk 4<| .ld 3 (.alt 5 (.alt 6 (.tk 7<| .tk 8<| .tk 9<| .alt 10 (.alt 11 (.tk 12<| .nil) .done) .done) (.alt 10 (.alt 6 (.tk 7<| .tk 8<| .tk 9<| .alt 11 (.tk 12<| .nil) .done) .done) .done)) (.alt 10 (.alt 5 (.alt 6 (.tk 7<| .tk 8<| .tk 9<| .alt 11 (.tk 12<| .nil) .done) .done) .done) .done))<| .alt 5 (.tk 3<| .alt 6 (.tk 7<| .tk 8<| .tk 9<| .alt 10 (.alt 11 (.tk 12<| .nil) .done) .done) (.alt 10 (.alt 6 (.tk 7<| .tk 8<| .tk 9<| .alt 11 (.tk 12<| .nil) .done) .done) .done)) (.alt 10 (.alt 5 (.tk 3<| .alt 6 (.tk 7<| .tk 8<| .tk 9<| .alt 11 (.tk 12<| .nil) .done) .done) .done) .done))]⟩
noncomputable def d326:aK:=⟨f326,[3],[],[(7,[60])],[]⟩
noncomputable def d327:aK:=⟨f327,[8,1000012,1000013],[(3,⟨[(15,.one (.raw (.int .i64)))],[]⟩),(19,⟨[(98,.one (.raw (.int .i64)))],[]⟩)],[],[(12,.tk 1<| .tk 2<| .tk 3<| .tk 6<| .tk 7<| .tk 8<| .ld 0 (.ld 4 (.ld 9 (.alt 5 (.tk 10<| .alt 11 (.nil) .done) .done)<| .alt 5 (.tk 9<| .tk 10<| .alt 11 (.nil) .done) .done)<| .ld 9 (.alt 5 (.tk 4<| .tk 10<| .alt 11 (.nil) .done) .done)<| .alt 5 (.tk 4<| .tk 9<| .tk 10<| .alt 11 (.nil) .done) .done)<| .ld 4 (.ld 9 (.alt 5 (.tk 0<| .tk 10<| .alt 11 (.nil) .done) .done)<| .alt 5 (.tk 0<| .tk 9<| .tk 10<| .alt 11 (.nil) .done) .done)<| .ld 9 (.alt 5 (.tk 0<| .tk 4<| .tk 10<| .alt 11 (.nil) .done) .done)<| .alt 5 (.tk 0<| .tk 4<| .tk 9<| .tk 10<| .alt 11 (.nil) .done) .done),(13,.tk 1<| .tk 2<| .tk 3<| .tk 6<| .tk 7<| .tk 8<| .ld 0 (.ld 4 (.ld 9 (.alt 5 (.tk 10<| .alt 11 (.nil) .done) .done)<| .alt 5 (.tk 9<| .tk 10<| .alt 11 (.nil) .done) .done)<| .ld 9 (.alt 5 (.tk 4<| .tk 10<| .alt 11 (.nil) .done) .done)<| .alt 5 (.tk 4<| .tk 9<| .tk 10<| .alt 11 (.nil) .done) .done)<| .ld 4 (.ld 9 (.alt 5 (.tk 0<| .tk 10<| .alt 11 (.nil) .done) .done)<| .alt 5 (.tk 0<| .tk 9<| .tk 10<| .alt 11 (.nil) .done) .done)<| .ld 9 (.alt 5 (.tk 0<| .tk 4<| .tk 10<| .alt 11 (.nil) .done) .done)<| .alt 5 (.tk 0<| .tk 4<| .tk 9<| .tk 10<| .alt 11 (.nil) .done) .done)]⟩
noncomputable def d328:aK:=⟨f328,[5],[],[(11,[333,23]),(16,[60])],[]⟩
noncomputable def d329:aK:=⟨f329,[],[],[],[]⟩
noncomputable def d331:aK:=⟨f331,[5],[],[(14,[60])],[]⟩
noncomputable def d337:aK:=⟨f337,[3],[],[(11,[412])],[]⟩
noncomputable def d338:aK:=⟨f338,[],[],[],[]⟩
noncomputable def d340:aK:=⟨f340,[],[],[(9,[294])],[]⟩
noncomputable def d341:aK:=⟨f341,[],[],[],[]⟩
noncomputable def d346:aK:=⟨f346,[5,1000003,1000005,1000006,1000007],[],[],[(3,.tk 0<| .tk 1<| .tk 2<| .tk 4<| .ld 3 (.alt 5 (.alt 6 (.tk 7<| .tk 8<| .tk 9<| .alt 10 (.alt 11 (.tk 12<| .nil) .done) .done) (.alt 10 (.alt 6 (.tk 7<| .tk 8<| .tk 9<| .alt 11 (.tk 12<| .nil) .done) .done) .done)) (.alt 10 (.alt 5 (.alt 6 (.tk 7<| .tk 8<| .tk 9<| .alt 11 (.tk 12<| .nil) .done) .done) .done) .done))<| .alt 5 (.tk 3<| .alt 6 (.tk 7<| .tk 8<| .tk 9<| .alt 10 (.alt 11 (.tk 12<| .nil) .done) .done) (.alt 10 (.alt 6 (.tk 7<| .tk 8<| .tk 9<| .alt 11 (.tk 12<| .nil) .done) .done) .done)) (.alt 10 (.alt 5 (.tk 3<| .alt 6 (.tk 7<| .tk 8<| .tk 9<| .alt 11 (.tk 12<| .nil) .done) .done) .done) .done)),(5,.tk 0<| .tk 1<| .tk 2<| .tk 3<| .tk 4<| .tk 5<| .tk 6<| .alt 7 (.tk 8<| .nil) .done),(6,.tk 0<| .tk 1<| .tk 2<| .tk 3<| .tk 4<| .alt 5 (.nil) .done),(7,.tk 0<| .tk 1<| .tk 2<| .tk 3<| .tk 4<| .tk 5<| .tk 6<| .tk 7<| .alt 8 (.nil) .done)]⟩
noncomputable def d347:aK:=⟨f347,[4,5],[],[],[]⟩
noncomputable def d349:aK:=⟨f349,[3,4,6],[],[],[]⟩
noncomputable def d350:aK:=⟨f350,[],[],[],[]⟩
noncomputable def d351:aK:=⟨f351,[],[(3,⟨[(7,.one (.raw (.int .i64)))],[]⟩)],[],[]⟩
noncomputable def d353:aK:=⟨f353,[3,1000004],[],[],[(4,.tk 0<| .tk 1<| .tk 2<| .tk 4<| .ld 3 (.alt 5 (.alt 6 (.tk 7<| .tk 8<| .tk 9<| .alt 10 (.alt 11 (.tk 12<| .nil) .done) .done) (.alt 10 (.alt 6 (.tk 7<| .tk 8<| .tk 9<| .alt 11 (.tk 12<| .nil) .done) .done) .done)) (.alt 10 (.alt 5 (.alt 6 (.tk 7<| .tk 8<| .tk 9<| .alt 11 (.tk 12<| .nil) .done) .done) .done) .done))<| .alt 5 (.tk 3<| .alt 6 (.tk 7<| .tk 8<| .tk 9<| .alt 10 (.alt 11 (.tk 12<| .nil) .done) .done) (.alt 10 (.alt 6 (.tk 7<| .tk 8<| .tk 9<| .alt 11 (.tk 12<| .nil) .done) .done) .done)) (.alt 10 (.alt 5 (.tk 3<| .alt 6 (.tk 7<| .tk 8<| .tk 9<| .alt 11 (.tk 12<| .nil) .done) .done) .done) .done))]⟩
noncomputable def d359:aK:=⟨f359,[4,1000003,1000005,1000006,1000007],[],[],[(3,.tk 0<| .tk 1<| .tk 2<| .tk 4<| .ld 3 (.alt 5 (.alt 6 (.tk 7<| .tk 8<| .tk 9<| .alt 10 (.alt 11 (.tk 12<| .nil) .done) .done) (.alt 10 (.alt 6 (.tk 7<| .tk 8<| .tk 9<| .alt 11 (.tk 12<| .nil) .done) .done) .done)) (.alt 10 (.alt 5 (.alt 6 (.tk 7<| .tk 8<| .tk 9<| .alt 11 (.tk 12<| .nil) .done) .done) .done) .done))<| .alt 5 (.tk 3<| .alt 6 (.tk 7<| .tk 8<| .tk 9<| .alt 10 (.alt 11 (.tk 12<| .nil) .done) .done) (.alt 10 (.alt 6 (.tk 7<| .tk 8<| .tk 9<| .alt 11 (.tk 12<| .nil) .done) .done) .done)) (.alt 10 (.alt 5 (.tk 3<| .alt 6 (.tk 7<| .tk 8<| .tk 9<| .alt 11 (.tk 12<| .nil) .done) .done) .done) .done)),(5,.tk 0<| .tk 1<| .tk 2<| .tk 3<| .tk 4<| .tk 5<| .tk 6<| .alt 7 (.tk 8<| .nil) .done),(6,.tk 0<| .tk 1<| .tk 2<| .tk 3<| .tk 4<| .alt 5 (.nil) .done),(7,.tk 0<| .tk 1<| .tk 2<| .tk 3<| .tk 4<| .tk 5<| .tk 6<| .tk 7<| .alt 8 (.nil) .done)]⟩
noncomputable def d360:aK:=⟨f360,[10,1000001,1000004],[],[(35,[425,430])],[(1,.tk 0<| .tk 1<| .tk 2<| .tk 3<| .tk 4<| .tk 5<| .alt 6 (.tk 7<| .tk 8<| .tk 9<| .alt 10 (.alt 11 (.tk 12<| .nil) .done) .done) (.alt 10 (.alt 6 (.tk 7<| .tk 8<| .tk 9<| .alt 11 (.tk 12<| .nil) .done) .done) .done)),(4,.tk 0<| .tk 1<| .tk 2<| .tk 3<| .tk 4<| .tk 5<| .tk 6<| .alt 7 (.nil) .done)]⟩
noncomputable def d363:aK:=⟨f363,[],[],[],[]⟩
noncomputable def d364:aK:=⟨f364,[],[(3,⟨[(7,.one (.raw (.int .i64)))],[]⟩)],[],[]⟩
noncomputable def d366:aK:=⟨f366,[],[],[],[]⟩
noncomputable def d367:aK:=⟨f367,[],[(3,⟨[(7,.one (.raw (.int .i64)))],[]⟩)],[],[]⟩
noncomputable def d368:aK:=⟨f368,[],[],[],[]⟩
noncomputable def d369:aK:=⟨f369,[],[(3,⟨[(7,.one (.raw (.int .i64)))],[]⟩)],[],[]⟩
noncomputable def d380:aK:=⟨f380,[3,1000001,1000004],[(2,⟨[(6,.one (.raw (.int .i64))),(7,.one (.raw (.int .i64)))],[]⟩)],[],[(1,.tk 0<| .tk 1<| .tk 2<| .tk 3<| .tk 4<| .tk 5<| .tk 6<| .nil),(4,.tk 0<| .tk 1<| .tk 2<| .tk 3<| .tk 4<| .tk 5<| .tk 6<| .tk 7<| .tk 8<| .alt 9 (.tk 10<| .nil) .done)]⟩
noncomputable def d381:aK:=⟨f381,[1000001],[],[],[(1,.tk 0<| .tk 1<| .tk 2<| .tk 3<| .tk 4<| .tk 5<| .tk 6<| .tk 8<| .tk 9<| .tk 10<| .ld 11 (.alt 7 (.alt 12 (.tk 13<| .tk 14<| .alt 15 (.nil) .done) .done) .done)<| .alt 7 (.tk 11<| .alt 12 (.tk 13<| .tk 14<| .alt 15 (.nil) .done) .done) .done)]⟩
noncomputable def d382:aK:=⟨f382,[3,1000007,1000011,1000012],[(9,⟨[(7,.one (.raw (.int .i64)))],[]⟩)],[],[(7,.tk 0<| .tk 1<| .tk 2<| .tk 3<| .tk 4<| .tk 5<| .alt 6 (.alt 7 (.tk 8<| .tk 9<| .alt 10 (.nil) .done) .done) .done),(11,.tk 0<| .tk 1<| .tk 2<| .tk 3<| .tk 4<| .tk 5<| .tk 6<| .tk 7<| .tk 8<| .tk 9<| .tk 10<| .tk 11<| .tk 12<| .tk 13<| .alt 14 (.nil) .done),(12,.tk 0<| .tk 1<| .tk 2<| .tk 3<| .tk 4<| .tk 5<| .tk 6<| .alt 7 (.nil) .done)]⟩
noncomputable def d383:aK:=⟨f383,[3,1000007,1000011,1000012],[(9,⟨[(7,.one (.raw (.int .i64)))],[]⟩)],[],[(7,.tk 0<| .tk 1<| .tk 2<| .tk 3<| .tk 4<| .tk 5<| .alt 6 (.alt 7 (.tk 8<| .tk 9<| .alt 10 (.nil) .done) .done) .done),(11,.tk 0<| .tk 1<| .tk 2<| .tk 3<| .tk 4<| .tk 5<| .tk 6<| .tk 7<| .tk 8<| .tk 9<| .tk 10<| .tk 11<| .tk 12<| .tk 13<| .alt 14 (.nil) .done),(12,.tk 0<| .tk 1<| .tk 2<| .tk 3<| .tk 4<| .tk 5<| .tk 6<| .alt 7 (.nil) .done)]⟩
noncomputable def d384:aK:=⟨f384,[3,1000007,1000011,1000012],[(9,⟨[(7,.one (.raw (.int .i64)))],[]⟩)],[],[(7,.tk 0<| .tk 1<| .tk 2<| .tk 3<| .tk 4<| .tk 5<| .alt 6 (.alt 7 (.tk 8<| .tk 9<| .alt 10 (.nil) .done) .done) .done),(11,.tk 0<| .tk 1<| .tk 2<| .tk 3<| .tk 4<| .tk 5<| .tk 6<| .tk 7<| .tk 8<| .tk 9<| .tk 10<| .tk 11<| .tk 12<| .tk 13<| .alt 14 (.nil) .done),(12,.tk 0<| .tk 1<| .tk 2<| .tk 3<| .tk 4<| .tk 5<| .tk 6<| .alt 7 (.nil) .done)]⟩
noncomputable def d386:aK:=⟨f386,[3,1000001,1000004],[(2,⟨[(6,.one (.raw (.int .i64))),(7,.one (.raw (.int .i64)))],[]⟩)],[],[(1,.tk 0<| .tk 1<| .tk 2<| .tk 3<| .tk 4<| .tk 5<| .tk 6<| .nil),(4,.tk 0<| .tk 1<| .tk 2<| .tk 3<| .tk 4<| .tk 5<| .tk 6<| .tk 7<| .tk 8<| .alt 9 (.tk 10<| .nil) .done)]⟩
noncomputable def d387:aK:=⟨f387,[1000001],[],[],[(1,.tk 0<| .tk 1<| .tk 2<| .tk 3<| .tk 4<| .tk 5<| .tk 6<| .tk 8<| .tk 9<| .tk 10<| .ld 11 (.alt 7 (.alt 12 (.tk 13<| .tk 14<| .alt 15 (.nil) .done) .done) .done)<| .alt 7 (.tk 11<| .alt 12 (.tk 13<| .tk 14<| .alt 15 (.nil) .done) .done) .done)]⟩
noncomputable def d394:aK:=⟨f394,[3,4,6],[],[],[]⟩
noncomputable def d395:aK:=⟨f395,[2],[],[],[]⟩
noncomputable def d396:aK:=⟨f396,[3,1000010,1000011],[(8,⟨[(7,.one (.raw (.int .i64)))],[]⟩)],[],[(10,.tk 0<| .tk 1<| .tk 2<| .tk 3<| .tk 4<| .tk 5<| .tk 6<| .tk 7<| .tk 8<| .tk 9<| .tk 10<| .tk 11<| .tk 12<| .tk 13<| .alt 14 (.nil) .done),(11,.tk 0<| .tk 1<| .tk 2<| .tk 3<| .tk 4<| .tk 5<| .tk 6<| .tk 7<| .tk 8<| .tk 9<| .tk 10<| .tk 11<| .tk 12<| .tk 13<| .alt 14 (.nil) .done)]⟩
noncomputable def d397:aK:=⟨f397,[5,1000001],[],[],[(1,.tk 1<| .tk 3<| .ld 0 (.ld 2 (.ld 5 (.alt 4 (.tk 6<| .alt 7 (.nil) .done) .done)<| .alt 4 (.tk 5<| .tk 6<| .alt 7 (.nil) .done) .done)<| .ld 5 (.alt 4 (.tk 2<| .tk 6<| .alt 7 (.nil) .done) .done)<| .alt 4 (.tk 2<| .tk 5<| .tk 6<| .alt 7 (.nil) .done) .done)<| .ld 2 (.ld 5 (.alt 4 (.tk 0<| .tk 6<| .alt 7 (.nil) .done) .done)<| .alt 4 (.tk 0<| .tk 5<| .tk 6<| .alt 7 (.nil) .done) .done)<| .ld 5 (.alt 4 (.tk 0<| .tk 2<| .tk 6<| .alt 7 (.nil) .done) .done)<| .alt 4 (.tk 0<| .tk 2<| .tk 5<| .tk 6<| .alt 7 (.nil) .done) .done)]⟩
noncomputable def d400:aK:=⟨f400,[3],[],[(11,[458])],[]⟩
noncomputable def d401:aK:=⟨f401,[],[],[],[]⟩
noncomputable def d404:aK:=⟨f404,[],[],[],[]⟩
noncomputable def d405:aK:=⟨f405,[],[(3,⟨[(7,.one (.raw (.int .i64)))],[]⟩)],[],[]⟩
noncomputable def d406:aK:=⟨f406,[3],[],[(11,[412])],[]⟩
noncomputable def d407:aK:=⟨f407,[3,4,6],[],[],[]⟩
noncomputable def d408:aK:=⟨f408,[2],[],[],[]⟩
noncomputable def d410:aK:=⟨f410,[3,1000004],[],[],[(4,.tk 0<| .tk 1<| .tk 2<| .tk 4<| .ld 3 (.alt 5 (.alt 6 (.tk 7<| .tk 8<| .tk 9<| .alt 10 (.alt 11 (.tk 12<| .nil) .done) .done) (.alt 10 (.alt 6 (.tk 7<| .tk 8<| .tk 9<| .alt 11 (.tk 12<| .nil) .done) .done) .done)) (.alt 10 (.alt 5 (.alt 6 (.tk 7<| .tk 8<| .tk 9<| .alt 11 (.tk 12<| .nil) .done) .done) .done) .done))<| .alt 5 (.tk 3<| .alt 6 (.tk 7<| .tk 8<| .tk 9<| .alt 10 (.alt 11 (.tk 12<| .nil) .done) .done) (.alt 10 (.alt 6 (.tk 7<| .tk 8<| .tk 9<| .alt 11 (.tk 12<| .nil) .done) .done) .done)) (.alt 10 (.alt 5 (.tk 3<| .alt 6 (.tk 7<| .tk 8<| .tk 9<| .alt 11 (.tk 12<| .nil) .done) .done) .done) .done))]⟩
noncomputable def d412:aK:=⟨f412,[4,1000003,1000005,1000006,1000007],[],[],[(3,.tk 0<| .tk 1<| .tk 2<| .tk 4<| .ld 3 (.alt 5 (.alt 6 (.tk 7<| .tk 8<| .tk 9<| .alt 10 (.alt 11 (.tk 12<| .nil) .done) .done) (.alt 10 (.alt 6 (.tk 7<| .tk 8<| .tk 9<| .alt 11 (.tk 12<| .nil) .done) .done) .done)) (.alt 10 (.alt 5 (.alt 6 (.tk 7<| .tk 8<| .tk 9<| .alt 11 (.tk 12<| .nil) .done) .done) .done) .done))<| .alt 5 (.tk 3<| .alt 6 (.tk 7<| .tk 8<| .tk 9<| .alt 10 (.alt 11 (.tk 12<| .nil) .done) .done) (.alt 10 (.alt 6 (.tk 7<| .tk 8<| .tk 9<| .alt 11 (.tk 12<| .nil) .done) .done) .done)) (.alt 10 (.alt 5 (.tk 3<| .alt 6 (.tk 7<| .tk 8<| .tk 9<| .alt 11 (.tk 12<| .nil) .done) .done) .done) .done)),(5,.tk 0<| .tk 1<| .tk 2<| .tk 3<| .tk 4<| .tk 5<| .tk 6<| .alt 7 (.tk 8<| .nil) .done),(6,.tk 0<| .tk 1<| .tk 2<| .tk 3<| .tk 4<| .alt 5 (.nil) .done),(7,.tk 0<| .tk 1<| .tk 2<| .tk 3<| .tk 4<| .tk 5<| .tk 6<| .tk 7<| .alt 8 (.nil) .done)]⟩
noncomputable def d416:aK:=⟨f416,[3,4,6],[],[],[]⟩
noncomputable def d417:aK:=⟨f417,[1,2],[],[],[]⟩
noncomputable def d420:aK:=⟨f420,[],[],[],[]⟩
noncomputable def d422:aK:=⟨f422,[4,6,1000004],[],[],[(4,.tk 0<| .tk 1<| .tk 2<| .tk 4<| .ld 3 (.alt 5 (.alt 6 (.tk 7<| .tk 8<| .tk 9<| .alt 10 (.alt 11 (.tk 12<| .nil) .done) .done) (.alt 10 (.alt 6 (.tk 7<| .tk 8<| .tk 9<| .alt 11 (.tk 12<| .nil) .done) .done) .done)) (.alt 10 (.alt 5 (.alt 6 (.tk 7<| .tk 8<| .tk 9<| .alt 11 (.tk 12<| .nil) .done) .done) .done) .done))<| .alt 5 (.tk 3<| .alt 6 (.tk 7<| .tk 8<| .tk 9<| .alt 10 (.alt 11 (.tk 12<| .nil) .done) .done) (.alt 10 (.alt 6 (.tk 7<| .tk 8<| .tk 9<| .alt 11 (.tk 12<| .nil) .done) .done) .done)) (.alt 10 (.alt 5 (.tk 3<| .alt 6 (.tk 7<| .tk 8<| .tk 9<| .alt 11 (.tk 12<| .nil) .done) .done) .done) .done))]⟩
noncomputable def d423:aK:=⟨f423,[5,1000003,1000005,1000006,1000007],[],[],[(3,.tk 0<| .tk 1<| .tk 2<| .tk 4<| .ld 3 (.alt 5 (.alt 6 (.tk 7<| .tk 8<| .tk 9<| .alt 10 (.alt 11 (.tk 12<| .nil) .done) .done) (.alt 10 (.alt 6 (.tk 7<| .tk 8<| .tk 9<| .alt 11 (.tk 12<| .nil) .done) .done) .done)) (.alt 10 (.alt 5 (.alt 6 (.tk 7<| .tk 8<| .tk 9<| .alt 11 (.tk 12<| .nil) .done) .done) .done) .done))<| .alt 5 (.tk 3<| .alt 6 (.tk 7<| .tk 8<| .tk 9<| .alt 10 (.alt 11 (.tk 12<| .nil) .done) .done) (.alt 10 (.alt 6 (.tk 7<| .tk 8<| .tk 9<| .alt 11 (.tk 12<| .nil) .done) .done) .done)) (.alt 10 (.alt 5 (.tk 3<| .alt 6 (.tk 7<| .tk 8<| .tk 9<| .alt 11 (.tk 12<| .nil) .done) .done) .done) .done)),(5,.tk 0<| .tk 1<| .tk 2<| .tk 3<| .tk 4<| .tk 5<| .tk 6<| .alt 7 (.tk 8<| .nil) .done),(6,.tk 0<| .tk 1<| .tk 2<| .tk 3<| .tk 4<| .alt 5 (.nil) .done),(7,.tk 0<| .tk 1<| .tk 2<| .tk 3<| .tk 4<| .tk 5<| .tk 6<| .tk 7<| .alt 8 (.nil) .done)]⟩
noncomputable def d434:aK:=⟨f434,[3,1000001,1000004],[(2,⟨[(6,.one (.raw (.int .i64))),(7,.one (.raw (.int .i64)))],[]⟩)],[],[(1,.tk 0<| .tk 1<| .tk 2<| .tk 3<| .tk 4<| .tk 5<| .tk 6<| .nil),(4,.tk 0<| .tk 1<| .tk 2<| .tk 3<| .tk 4<| .tk 5<| .tk 6<| .tk 7<| .tk 8<| .alt 9 (.tk 10<| .nil) .done)]⟩
noncomputable def d435:aK:=⟨f435,[1000001],[],[],[(1,.tk 0<| .tk 1<| .tk 2<| .tk 3<| .tk 4<| .tk 5<| .tk 6<| .tk 8<| .tk 9<| .tk 10<| .ld 11 (.alt 7 (.alt 12 (.tk 13<| .tk 14<| .alt 15 (.nil) .done) .done) .done)<| .alt 7 (.tk 11<| .alt 12 (.tk 13<| .tk 14<| .alt 15 (.nil) .done) .done) .done)]⟩
noncomputable def d436:aK:=⟨f436,[3,1000001,1000004],[(2,⟨[(6,.one (.raw (.int .i64))),(7,.one (.raw (.int .i64)))],[]⟩)],[],[(1,.tk 0<| .tk 1<| .tk 2<| .tk 3<| .tk 4<| .tk 5<| .tk 6<| .nil),(4,.tk 0<| .tk 1<| .tk 2<| .tk 3<| .tk 4<| .tk 5<| .tk 6<| .tk 7<| .tk 8<| .alt 9 (.tk 10<| .nil) .done)]⟩
noncomputable def d437:aK:=⟨f437,[1000001],[],[],[(1,.tk 0<| .tk 1<| .tk 2<| .tk 3<| .tk 4<| .tk 5<| .tk 6<| .tk 8<| .tk 9<| .tk 10<| .ld 11 (.alt 7 (.alt 12 (.tk 13<| .tk 14<| .alt 15 (.nil) .done) .done) .done)<| .alt 7 (.tk 11<| .alt 12 (.tk 13<| .tk 14<| .alt 15 (.nil) .done) .done) .done)]⟩
noncomputable def d438:aK:=⟨f438,[3,1000001,1000004],[(2,⟨[(6,.one (.raw (.int .i64))),(7,.one (.raw (.int .i64)))],[]⟩)],[],[(1,.tk 0<| .tk 1<| .tk 2<| .tk 3<| .tk 4<| .tk 5<| .tk 6<| .nil),(4,.tk 0<| .tk 1<| .tk 2<| .tk 3<| .tk 4<| .tk 5<| .tk 6<| .tk 7<| .tk 8<| .alt 9 (.tk 10<| .nil) .done)]⟩
noncomputable def d439:aK:=⟨f439,[1000001],[],[],[(1,.tk 0<| .tk 1<| .tk 2<| .tk 3<| .tk 4<| .tk 5<| .tk 6<| .tk 8<| .tk 9<| .tk 10<| .ld 11 (.alt 7 (.alt 12 (.tk 13<| .tk 14<| .alt 15 (.nil) .done) .done) .done)<| .alt 7 (.tk 11<| .alt 12 (.tk 13<| .tk 14<| .alt 15 (.nil) .done) .done) .done)]⟩
noncomputable def d442:aK:=⟨f442,[],[],[],[]⟩
noncomputable def d443:aK:=⟨f443,[],[(3,⟨[(7,.one (.raw (.int .i64)))],[]⟩)],[],[]⟩
noncomputable def d447:aK:=⟨f447,[3,4,6],[],[],[]⟩
noncomputable def d448:aK:=⟨f448,[1,2],[],[],[]⟩
noncomputable def d453:aK:=⟨f453,[3,4,6],[],[],[]⟩
noncomputable def d454:aK:=⟨f454,[2],[],[],[]⟩
noncomputable def d456:aK:=⟨f456,[3],[],[(11,[554])],[]⟩
noncomputable def d457:aK:=⟨f457,[],[],[],[]⟩
noncomputable def d464:aK:=⟨f464,[],[],[],[]⟩
noncomputable def d465:aK:=⟨f465,[],[(3,⟨[(7,.one (.raw (.int .i64)))],[]⟩)],[],[]⟩
noncomputable def d494:aK:=⟨f494,[2,3],[],[],[]⟩
noncomputable def d505:aK:=⟨f505,[],[],[],[]⟩
noncomputable def d537:aK:=⟨f537,[2,3],[],[],[]⟩
noncomputable def d538:aK:=⟨f538,[2,3],[],[],[]⟩
noncomputable def d561:aK:=⟨f561,[],[],[],[]⟩
noncomputable def d566:aK:=⟨f566,[2,3],[],[],[]⟩
noncomputable def d596:aK:=⟨f596,[],[],[],[]⟩
noncomputable def d605:aK:=⟨f605,[2,3],[],[],[]⟩
noncomputable def d610:aK:=⟨f610,[],[],[],[]⟩
noncomputable def d625:aK:=⟨f625,[2,3],[],[],[]⟩
noncomputable def d650:aK:=⟨f650,[2,3],[],[],[]⟩
noncomputable def d656:aK:=⟨f656,[2,3],[],[],[]⟩
noncomputable def d662:aK:=⟨f662,[2,3],[],[],[]⟩
noncomputable def Sl:Tr zA:=.nd (.nd (.nd (.nd (.nd (.nd (.nd (.nd (.lf) (none) (.nd (.lf) (some (.code d383)) (.lf))) (none) (.nd (.nd (.lf) (some (.code d319)) (.lf)) (some (.code d191)) (.nd (.lf) (some (.code d447)) (.lf)))) (some (.code d31)) (.nd (.nd (.nd (.lf) (some (.code d287)) (.lf)) (none) (.lf)) (none) (.nd (.nd (.lf) (some (.code d351)) (.lf)) (none) (.lf)))) (none) (.nd (.nd (.nd (.nd (.lf) (some (.code d271)) (.lf)) (some (.code d143)) (.lf)) (some (.code d79)) (.lf)) (none) (.nd (.nd (.lf) (some (.code d175)) (.lf)) (none) (.nd (.nd (.lf) (some (.code d367)) (.lf)) (some (.code d239)) (.lf))))) (some (.code d7)) (.nd (.nd (.nd (.nd (.nd (.lf) (some (.code d263)) (.lf)) (some (.code d135)) (.lf)) (some (.code d71)) (.nd (.nd (.lf) (some (.code d327)) (.lf)) (some (.code d199)) (.lf))) (some (.code d39)) (.nd (.nd (.nd (.lf) (some (.code d295)) (.lf)) (some (.code d167)) (.nd (.lf) (some (.code d423)) (.lf))) (none) (.nd (.nd (.lf) (some (.code d359)) (.lf)) (some (.code d231)) (.lf)))) (some (.code d23)) (.nd (.nd (.nd (.nd (.lf) (some (.code d279)) (.lf)) (none) (.nd (.lf) (some (.code d407)) (.lf))) (some (.code d87)) (.lf)) (some (.code d55)) (.nd (.nd (.lf) (some (.code d183)) (.nd (.lf) (some (.code d439)) (.lf))) (some (.code d119)) (.nd (.lf) (some (.code d247)) (.lf)))))) (none) (.nd (.nd (.nd (.nd (.nd (.nd (.lf) (some (.code d259)) (.lf)) (some (.code d131)) (.nd (.lf) (some (.code d387)) (.lf))) (some (.code d67)) (.nd (.nd (.lf) (some (.code d323)) (.lf)) (some (.code d195)) (.lf))) (some (.code d35)) (.nd (.nd (.lf) (some (.code d163)) (.lf)) (none) (.nd (.lf) (some (.code d227)) (.lf)))) (none) (.nd (.nd (.nd (.lf) (some (.code d147)) (.lf)) (some (.code d83)) (.lf)) (none) (.nd (.nd (.lf) (some (.code d179)) (.nd (.lf) (some (.code d435)) (.lf))) (some (.code d115)) (.nd (.lf) (some (.code d243)) (.lf))))) (none) (.nd (.nd (.nd (.nd (.lf) (some (.code d139)) (.nd (.lf) (some (.code d395)) (.lf))) (some (.code d75)) (.nd (.nd (.lf) (some (.code d331)) (.lf)) (some (.code d203)) (.lf))) (none) (.nd (.nd (.lf) (some (.code d171)) (.lf)) (none) (.nd (.nd (.lf) (some (.code d363)) (.lf)) (some (.code d235)) (.lf)))) (some (.code d27)) (.nd (.nd (.lf) (none) (.nd (.nd (.lf) (some (.code d347)) (.lf)) (none) (.lf))) (none) (.nd (.nd (.nd (.lf) (some (.code d315)) (.lf)) (some (.code d187)) (.nd (.lf) (some (.code d443)) (.lf))) (some (.code d123)) (.lf)))))) (none) (.nd (.nd (.nd (.nd (.nd (.nd (.nd (.lf) (some (.code d257)) (.lf)) (some (.code d129)) (.lf)) (none) (.lf)) (some (.code d33)) (.nd (.nd (.nd (.lf) (some (.code d289)) (.lf)) (none) (.nd (.lf) (some (.code d417)) (.lf))) (none) (.nd (.nd (.lf) (some (.code d353)) (.lf)) (some (.code d225)) (.lf)))) (none) (.nd (.nd (.nd (.nd (.lf) (some (.code d273)) (.lf)) (some (.code d145)) (.nd (.lf) (some (.code d401)) (.lf))) (some (.code d81)) (.nd (.nd (.lf) (some (.code d337)) (.lf)) (none) (.nd (.lf) (some (.code d465)) (.lf)))) (none) (.nd (.nd (.nd (.nd (.lf) (some (.code d561)) (.lf)) (none) (.lf)) (none) (.lf)) (none) (.nd (.nd (.nd (.lf) (some (.code d625)) (.lf)) (some (.code d369)) (.lf)) (some (.code d241)) (.lf))))) (none) (.nd (.nd (.nd (.nd (.lf) (some (.code d137)) (.lf)) (some (.code d73)) (.nd (.nd (.lf) (some (.code d329)) (.lf)) (some (.code d201)) (.nd (.lf) (some (.code d457)) (.lf)))) (some (.code d41)) (.nd (.nd (.lf) (some (.code d169)) (.lf)) (none) (.nd (.lf) (some (.code d233)) (.nd (.lf) (some (.pure Iv)) (.lf))))) (some (.code d25)) (.nd (.nd (.nd (.nd (.nd (.lf) (some (.code d537)) (.lf)) (some (.code d281)) (.lf)) (none) (.lf)) (some (.code d89)) (.lf)) (none) (.nd (.nd (.nd (.lf) (some (.code d313)) (.lf)) (some (.code d185)) (.lf)) (some (.code d121)) (.nd (.lf) (none) (.nd (.lf) (some (.code d505)) (.lf))))))) (none) (.nd (.nd (.nd (.nd (.nd (.lf) (some (.code d133)) (.lf)) (some (.code d69)) (.nd (.nd (.lf) (some (.code d325)) (.lf)) (none) (.nd (.lf) (some (.code d453)) (.lf)))) (some (.code d37)) (.nd (.nd (.lf) (some (.code d165)) (.lf)) (none) (.nd (.lf) (some (.code d229)) (.lf)))) (none) (.nd (.nd (.nd (.nd (.lf) (some (.code d277)) (.lf)) (none) (.nd (.lf) (some (.code d405)) (.lf))) (some (.code d85)) (.nd (.nd (.lf) (some (.code d341)) (.lf)) (none) (.lf))) (none) (.nd (.nd (.lf) (some (.code d181)) (.nd (.lf) (some (.code d437)) (.lf))) (some (.code d117)) (.nd (.lf) (some (.code d245)) (.lf))))) (none) (.nd (.nd (.nd (.nd (.nd (.lf) (some (.code d269)) (.lf)) (some (.code d141)) (.nd (.lf) (some (.code d397)) (.lf))) (some (.code d77)) (.lf)) (none) (.nd (.nd (.lf) (some (.code d173)) (.lf)) (none) (.nd (.lf) (some (.code d237)) (.lf)))) (some (.code d29)) (.nd (.nd (.lf) (some (.code d93)) (.nd (.nd (.nd (.lf) (some (.code d605)) (.lf)) (some (.code d349)) (.lf)) (none) (.lf))) (none) (.nd (.nd (.nd (.lf) (some (.code d317)) (.lf)) (some (.code d189)) (.lf)) (some (.code d125)) (.nd (.nd (.lf) (some (.code d381)) (.lf)) (none) (.lf)))))))) (none) (.nd (.nd (.nd (.nd (.nd (.nd (.nd (.lf) (some (.code d128)) (.nd (.lf) (some (.code d384)) (.lf))) (none) (.nd (.lf) (none) (.nd (.lf) (some (.code d448)) (.lf)))) (some (.code d32)) (.nd (.nd (.nd (.lf) (some (.code d288)) (.lf)) (none) (.nd (.lf) (some (.code d416)) (.lf))) (none) (.nd (.lf) (some (.code d224)) (.lf)))) (some (.code d16)) (.nd (.nd (.nd (.nd (.lf) (some (.code d272)) (.lf)) (none) (.nd (.nd (.lf) (some (.code d656)) (.lf)) (some (.code d400)) (.lf))) (some (.code d80)) (.nd (.lf) (some (.code d208)) (.nd (.lf) (some (.code d464)) (.lf)))) (none) (.nd (.nd (.lf) (some (.code d176)) (.lf)) (none) (.nd (.nd (.lf) (some (.code d368)) (.lf)) (some (.code d240)) (.lf))))) (some (.code d8)) (.nd (.nd (.nd (.nd (.lf) (some (.code d136)) (.lf)) (some (.look (KD 3 PV.agg Iv (Ud adq)))) (.nd (.nd (.lf) (some (.code d328)) (.lf)) (none) (.nd (.lf) (some (.code d456)) (.lf)))) (some (.code d40)) (.nd (.nd (.lf) (some (.code d168)) (.lf)) (none) (.nd (.nd (.lf) (some (.code d360)) (.lf)) (some (.code d232)) (.lf)))) (some (.code d24)) (.nd (.nd (.nd (.nd (.lf) (some (.code d280)) (.lf)) (none) (.nd (.lf) (some (.code d408)) (.lf))) (some (.code d88)) (.lf)) (some (.code d56)) (.nd (.nd (.nd (.lf) (some (.code d312)) (.lf)) (none) (.lf)) (some (.code d120)) (.nd (.lf) (some (.code d248)) (.lf)))))) (none) (.nd (.nd (.nd (.nd (.nd (.lf) (some (.code d132)) (.lf)) (some (.code d68)) (.nd (.nd (.lf) (some (.code d324)) (.lf)) (some (.code d196)) (.lf))) (some (.code d36)) (.nd (.nd (.nd (.lf) (some (.code d292)) (.lf)) (some (.code d164)) (.nd (.lf) (some (.code d420)) (.lf))) (none) (.nd (.lf) (some (.code d228)) (.lf)))) (none) (.nd (.nd (.nd (.lf) (none) (.nd (.lf) (some (.code d404)) (.lf))) (some (.code d84)) (.nd (.nd (.nd (.lf) (some (.code d596)) (.lf)) (some (.code d340)) (.lf)) (none) (.lf))) (none) (.nd (.nd (.lf) (some (.code d180)) (.nd (.lf) (some (.code d436)) (.lf))) (some (.code d116)) (.nd (.lf) (some (.code d244)) (.lf))))) (none) (.nd (.nd (.nd (.nd (.nd (.lf) (some (.code d268)) (.lf)) (some (.code d140)) (.nd (.lf) (some (.code d396)) (.lf))) (some (.code d76)) (.nd (.lf) (some (.code d204)) (.lf))) (none) (.nd (.nd (.lf) (some (.code d172)) (.lf)) (none) (.nd (.nd (.lf) (some (.code d364)) (.lf)) (some (.code d236)) (.lf)))) (some (.code d28)) (.nd (.nd (.nd (.lf) (none) (.nd (.lf) (some (.code d412)) (.lf))) (none) (.lf)) (none) (.nd (.nd (.nd (.lf) (some (.code d316)) (.lf)) (some (.code d188)) (.lf)) (some (.code d124)) (.nd (.nd (.lf) (some (.code d380)) (.lf)) (none) (.lf))))))) (none) (.nd (.nd (.nd (.nd (.nd (.nd (.lf) (some (.code d130)) (.nd (.lf) (some (.code d386)) (.lf))) (none) (.lf)) (some (.code d34)) (.nd (.nd (.nd (.lf) (some (.code d290)) (.lf)) (some (.code d162)) (.lf)) (none) (.nd (.nd (.nd (.lf) (some (.code d610)) (.lf)) (none) (.lf)) (some (.code d226)) (.lf)))) (none) (.nd (.nd (.nd (.nd (.lf) (some (.code d274)) (.lf)) (some (.code d146)) (.lf)) (some (.code d82)) (.nd (.nd (.lf) (some (.code d338)) (.lf)) (none) (.lf))) (none) (.nd (.nd (.lf) (none) (.nd (.lf) (some (.code d434)) (.lf))) (some (.code d114)) (.nd (.lf) (some (.code d242)) (.lf))))) (none) (.nd (.nd (.nd (.nd (.nd (.lf) (some (.code d266)) (.lf)) (some (.code d138)) (.nd (.nd (.lf) (some (.code d650)) (.lf)) (some (.code d394)) (.lf))) (some (.code d74)) (.nd (.lf) (some (.code d202)) (.lf))) (some (.code d42)) (.nd (.nd (.lf) (some (.code d170)) (.lf)) (none) (.nd (.lf) (some (.code d234)) (.lf)))) (some (.code d26)) (.nd (.nd (.nd (.nd (.nd (.lf) (some (.code d538)) (.lf)) (some (.code d282)) (.lf)) (none) (.nd (.lf) (some (.code d410)) (.lf))) (none) (.nd (.nd (.lf) (some (.code d346)) (.lf)) (none) (.lf))) (none) (.nd (.nd (.nd (.lf) (some (.code d314)) (.lf)) (some (.code d186)) (.nd (.lf) (some (.code d442)) (.lf))) (some (.code d122)) (.lf))))) (none) (.nd (.nd (.nd (.nd (.nd (.nd (.lf) (some (.code d262)) (.lf)) (none) (.lf)) (some (.code d70)) (.nd (.nd (.lf) (some (.code d326)) (.lf)) (some (.code d198)) (.nd (.lf) (some (.code d454)) (.lf)))) (some (.code d38)) (.nd (.nd (.nd (.lf) (some (.code d294)) (.lf)) (some (.code d166)) (.nd (.lf) (some (.code d422)) (.lf))) (none) (.nd (.lf) (some (.code d230)) (.lf)))) (none) (.nd (.nd (.nd (.nd (.lf) (some (.code d278)) (.lf)) (none) (.nd (.nd (.lf) (some (.code d662)) (.lf)) (some (.code d406)) (.lf))) (some (.code d86)) (.lf)) (none) (.nd (.nd (.nd (.nd (.lf) (some (.code d566)) (.lf)) (none) (.lf)) (some (.code d182)) (.nd (.lf) (some (.code d438)) (.lf))) (some (.code d118)) (.nd (.lf) (some (.code d246)) (.lf))))) (none) (.nd (.nd (.nd (.nd (.lf) (some (.code d142)) (.lf)) (some (.code d78)) (.nd (.lf) (some (.code d206)) (.lf))) (none) (.nd (.nd (.lf) (some (.code d174)) (.lf)) (none) (.nd (.nd (.lf) (some (.code d366)) (.lf)) (some (.code d238)) (.nd (.lf) (some (.code d494)) (.lf))))) (some (.code d30)) (.nd (.nd (.lf) (some (.code d94)) (.nd (.nd (.lf) (some (.code d350)) (.lf)) (none) (.lf))) (none) (.nd (.nd (.nd (.lf) (some (.code d318)) (.lf)) (some (.code d190)) (.lf)) (some (.code d126)) (.nd (.nd (.lf) (some (.code d382)) (.lf)) (none) (.lf))))))))
noncomputable def Ac:Tr FuncId:=.nd (.nd (.nd (.nd (.nd (.lf) (none) (.nd (.lf) (none) (.nd (.lf) (none) (.nd (.lf) (some (537)) (.lf))))) (none) (.lf)) (none) (.nd (.lf) (none) (.nd (.lf) (none) (.nd (.lf) (none) (.nd (.nd (.nd (.lf) (some (566)) (.lf)) (none) (.lf)) (none) (.lf)))))) (none) (.nd (.nd (.lf) (none) (.nd (.nd (.lf) (none) (.nd (.nd (.lf) (none) (.nd (.lf) (some (610)) (.lf))) (none) (.lf))) (none) (.nd (.lf) (none) (.nd (.lf) (none) (.nd (.lf) (some (538)) (.lf)))))) (none) (.nd (.lf) (none) (.nd (.lf) (none) (.nd (.nd (.lf) (some (505)) (.lf)) (none) (.lf)))))) (none) (.nd (.nd (.nd (.lf) (none) (.nd (.nd (.lf) (none) (.nd (.lf) (none) (.nd (.nd (.lf) (some (596)) (.lf)) (none) (.lf)))) (none) (.nd (.lf) (none) (.nd (.nd (.lf) (none) (.nd (.lf) (some (625)) (.lf))) (none) (.lf))))) (none) (.nd (.nd (.nd (.lf) (none) (.nd (.nd (.nd (.nd (.lf) (some (662)) (.lf)) (none) (.lf)) (none) (.lf)) (none) (.lf))) (none) (.lf)) (none) (.nd (.nd (.lf) (none) (.nd (.nd (.nd (.lf) (some (561)) (.lf)) (none) (.lf)) (none) (.lf))) (none) (.nd (.lf) (some (494)) (.lf))))) (none) (.nd (.nd (.nd (.nd (.lf) (none) (.nd (.nd (.lf) (none) (.nd (.lf) (some (605)) (.lf))) (none) (.lf))) (none) (.lf)) (none) (.nd (.lf) (none) (.nd (.lf) (some (489)) (.nd (.lf) (none) (.nd (.lf) (none) (.nd (.lf) (some (650)) (.lf))))))) (none) (.nd (.lf) (none) (.nd (.lf) (none) (.nd (.nd (.nd (.nd (.nd (.lf) (some (656)) (.lf)) (none) (.lf)) (none) (.lf)) (none) (.lf)) (none) (.lf))))))
end Go.Proofs.YtbkejjmjopgpoaaGreat
