/- What is proved: the statement AuditRaw, as it is given. Conditions: none. -/
import Derived.Test.YtbkejjmjopgpoaaGreatB19
import Derived.Test.YtbkejjmjopgpoaaGreatXAuditRawA
import Derived.Test.YtbkejjmjopgpoaaGreatB09
import Derived.Test.YtbkejjmjopgpoaaGreatB11
import Derived.Test.YtbkejjmjopgpoaaGreatB12
import Derived.Test.YtbkejjmjopgpoaaGreatB13
import Derived.Test.YtbkejjmjopgpoaaGreatB14
import Derived.Test.YtbkejjmjopgpoaaGreatB15
import Derived.Test.YtbkejjmjopgpoaaGreatB16
import Derived.Test.YtbkejjmjopgpoaaGreatB17
import Derived.Test.YtbkejjmjopgpoaaGreatB18
import Derived.Test.YtbkejjmjopgpoaaGreatRows
import Derived.Test.YtbkejjmjopgpoaaGreatChecked
import Derived.ClosedOfChecked
import Derived.KernelRfl
import Derived.WalkKit
import Derived.ProofKit
import Derived.OpenShut
import Derived.ShutString
import Derived.ChangeOld
import Derived.Below
set_option linter.all false
namespace Go.Proofs.YtbkejjmjopgpoaaGreat
open Go.Proofs.Tryz Go.az Go.RowKit
open Classical
def Yy(g:Goal)(b:Bool):av:=⟨g.st,ou,g.op,b,false,0⟩
theorem MY(g:Goal)(b:Bool):Pure prog 91 [.agg g.st.pv,.agg g.op.pv,pB b] (.agg (Yy g b).pv):=ax.of (vI.c rfl)
section
variable {v:a_} {x:XC} {lv:List (Sym×Int)} {L:List bk} {μ:Mem} (hv:v.Ok) (hl:Nw v.ay v.elems lv)
include hv hl
theorem aah(hO:Ow (XL v x lv L) μ){K:Kq}(hk:∀μ',Ow (XL v x lv L) μ'->K (pB (decide v.R3)) μ'):ab prog 38 [pP x.b 0] μ K:=by
 have he:=hv.e;have hg:=hv.g
 have bad:¬v.R3->∀μ',Ow (XL v x lv L) μ'->K (pB false) μ':=λh u hu=>by have:=hk u hu;rw[decide_eq_false h]at this;exact this
 refine sG.c ?_
 simp only[and_true,and_self]
 refine⟨_,_,hO.rd 0 rfl (by simp),?_⟩
 rw[List.length_map]
 let P (e:av) (g:Goal):Prop:=g.st=e.id/\g.op=e.value/\g.op.k≠0
 refine aj.each (n:=v.elems.length) (by omega) (λk u=>Ow (XL v x lv L) u/\∀e∈v.elems.take k,fi e=true->∃g∈v.goals,P e g) ⟨hO,by simp⟩ ?_ ?_
 ·rintro k u next bP ⟨h1,hI⟩ ar
  have add:(fi v.elems[k]=true->∃g∈v.goals,P v.elems[k] g)->∀e∈v.elems.take (k+1),fi e=true->∃g∈v.goals,P e g:=λh e he=>by
   rcases(kW bP).1 he with he|rfl
   ·exact hI e he
   ·exact h
  refine ae.t (by simpa using bP) ⟨by omega,_,aI bP,_,_,_,_,_,_,_,_,_,_,_,_,rfl,(RE hv hl v.elems[k]).call ⟨_,rfl,ae.mk (λh=>ar _ ⟨h1,add λh2=>?_⟩) (λh=>⟨_,_,h1.rd 0 rfl (by simp),?_⟩)⟩⟩
  ·rw[h2]at h;cases h
  ·have hch:fi v.elems[k]=true:=by simpa using h
   rw[List.length_map]
   refine aj.ed (n:=v.goals.length) (by omega) (λj y u=>Ow (XL v x lv L) u/\(y=true↔∃g∈v.goals.take j,P v.elems[k] g)) ⟨h1,by simp⟩ ?_ ?_
   ·rintro j y u2 dS hj ⟨h2,hJ⟩ cR
    have Eb:∀{z:Bool},(z=true↔(∃g∈v.goals.take j,P v.elems[k] g)\/P v.elems[k] v.goals[j])->dS (z,IntKind.wrap .i64 ((j:Int)+1)) u2:=λ{z} h=>cR _ _ ⟨h2,h.trans ⟨λh=>by
     rcases h with⟨g,hg,hq⟩|hq
     ·exact⟨g,(kW hj).2 (.inl hg),hq⟩
     ·exact⟨_,(kW hj).2 (.inr rfl),hq⟩,λ⟨g,hg,hq⟩=>by
     rcases(kW hj).1 hg with hg|rfl
     ·exact .inl ⟨g,hg,hq⟩
     ·exact .inr hq⟩⟩
    refine ae.t (by simpa using hj) ⟨by omega,_,aI hj,_,_,_,_,_,_,_,_,_,_,rfl,ae.mk (λh3=>?_) (λh3=>?_)⟩
    ·refine Eb ?_
     have:=hJ.1 h3
     simp only[true_iff];exact .inl this
    ·have iA:¬ ∃g∈v.goals.take j,P v.elems[k] g:=λh=>by have:=hJ.2 h;rw[this]at h3;cases h3
     refine ae.mk (λh4=>ae.mk (λh5=>?_) (λh5=>?_)) (λh4=>?_)
     ·have e1:v.goals[j].st=v.elems[k].id:=aQ.1 h4
      have e2:v.goals[j].op=v.elems[k].value:=aQ.1 h5
      refine Eb ?_
      rw[bne_iff_ne]
      exact⟨λh=>.inr ⟨e1,e2,h⟩,λh=>(h.resolve_left iA).2.2⟩
     ·have e2:v.goals[j].op≠v.elems[k].value:=λe=>by
       have:bE v.goals[j].op v.elems[k].value=true:=aQ.2 e
       exact Bool.noConfusion (this.symm.trans h5)
      refine Eb ?_
      simp only[Bool.false_eq_true,false_iff]
      rintro(h|h)
      ·exact iA h
      ·exact e2 h.2.1
     ·have e1:v.goals[j].st≠v.elems[k].id:=λe=>by
       have:bE v.goals[j].st v.elems[k].id=true:=aQ.2 e
       exact Bool.noConfusion (this.symm.trans h4)
      refine Eb ?_
      simp only[Bool.false_eq_true,false_iff]
      rintro(h|h)
      ·exact iA h
      ·exact e1 h.1
   ·rintro y u2 dS ⟨h2,hJ⟩
    rw[List.take_length]at hJ
    refine ae.f (by simp) (ae.mk (λh3=>bad (λhR=>?_) u2 h2) (λh3=>ar _ ⟨h2,add λ_=>hJ.1 (by simpa using h3)⟩))
    have:=hJ.2 (hR.1 _ (List.getElem_mem bP) hch)
    rw[this]at h3;cases h3
 ·rintro u next ⟨h1,hI⟩
  rw[List.take_length]at hI
  refine ae.f (by simp) ⟨_,_,h1.rd 0 rfl (by simp),?_⟩
  rw[List.length_map]
  refine aj.each (n:=v.goals.length) (by omega) (λk u=>Ow (XL v x lv L) u/\∀g∈v.goals.take k,g.op.k≠0->dB v.elems (g.st,ou,g.op,false)/\dB v.elems (g.st,ou,g.op,true)) ⟨h1,by simp⟩ ?_ ?_
  ·rintro k u2 dS bP ⟨h2,hJ⟩ cR
   have add:(v.goals[k].op.k≠0->dB v.elems (Yy v.goals[k] false).key/\dB v.elems (Yy v.goals[k] true).key)->∀g∈v.goals.take (k+1),g.op.k≠0->dB v.elems (g.st,ou,g.op,false)/\dB v.elems (g.st,ou,g.op,true):=λh g hg=>by
    rcases(kW bP).1 hg with hg|rfl
    ·exact hJ g hg
    ·exact h
   refine ae.t (by simpa using bP) ⟨by omega,_,aI bP,_,_,_,_,_,_,_,_,_,_,rfl,ae.mk (λh=>?_) (λh=>?_)⟩
   ·have Qu:v.goals[k].op.k≠0:=by simpa using h
    have s2:dB v.elems (Yy v.goals[k] false).key->ae (!(decide (dB v.elems (Yy v.goals[k] true).key))) (K (pB false) u2) (dS (IntKind.wrap .i64 ((k:Int)+1)) u2):=λhf=>ae.mk (λh3=>bad (λhR=>by
     rw[decide_eq_true (p:=dB v.elems (Yy v.goals[k] true).key) (hR.2 _ (List.getElem_mem bP) Qu).2]at h3;cases h3) u2 h2) (λh3=>cR _ ⟨h2,add λ_=>⟨hf,of_decide_eq_true (by simpa using h3)⟩⟩)
    have b1:¬dB v.elems (Yy v.goals[k] false).key->K (pB false) u2:=λhn=>bad (λhR=>hn (hR.2 _ (List.getElem_mem bP) Qu).1) u2 h2
    refine⟨⟨_,h2.rd 0 rfl (by simp),(MY v.goals[k] false).call ⟨_,_,_,_,_,_,_,_,_,_,_,_,rfl,sc hv hl h2 _ ⟨_,rfl,ae.mk (λh3=>b1 (of_decide_eq_false (by simpa using h3))) (λh3=>⟨⟨_,h2.rd 0 rfl (by simp),(MY v.goals[k] true).call ⟨_,_,_,_,_,_,_,_,_,_,_,_,rfl,sc hv hl h2 _ ⟨_,rfl,s2 (of_decide_eq_true (by simpa using h3))⟩⟩⟩,(MY v.goals[k] true).call ⟨_,_,_,_,_,_,_,_,_,_,_,_,rfl,_,h2.rd 0 rfl (by simp),sc hv hl h2 _ ⟨_,rfl,s2 (of_decide_eq_true (by simpa using h3))⟩⟩⟩)⟩⟩⟩,(MY v.goals[k] false).call ⟨_,_,_,_,_,_,_,_,_,_,_,_,rfl,_,h2.rd 0 rfl (by simp),sc hv hl h2 _ ⟨_,rfl,ae.mk (λh3=>b1 (of_decide_eq_false (by simpa using h3))) (λh3=>⟨⟨_,h2.rd 0 rfl (by simp),(MY v.goals[k] true).call ⟨_,_,_,_,_,_,_,_,_,_,_,_,rfl,sc hv hl h2 _ ⟨_,rfl,s2 (of_decide_eq_true (by simpa using h3))⟩⟩⟩,(MY v.goals[k] true).call ⟨_,_,_,_,_,_,_,_,_,_,_,_,rfl,_,h2.rd 0 rfl (by simp),sc hv hl h2 _ ⟨_,rfl,s2 (of_decide_eq_true (by simpa using h3))⟩⟩⟩)⟩⟩⟩
   ·have Qu:v.goals[k].op.k=0:=by simpa using h
    exact cR _ ⟨h2,add λh3=>absurd Qu h3⟩
  ·rintro u2 dS ⟨h2,hJ⟩
   rw[List.take_length]at hJ
   refine ae.f (by simp) ?_
   have:=hk u2 h2
   rw[decide_eq_true (p:=v.R3) ⟨hI,hJ⟩]at this
   exact this
theorem aag(hO:Ow (XL v x lv L) μ){K:Kq}(hk:∀μ',Ow (XL v x lv L) μ'->K (pB (decide v.R4)) μ'):ab prog 39 [pP x.b 0] μ K:=by
 have he:=hv.e;have hg:=hv.g;have hp:=hv.p;have hi:=hv.i
 have DI:v.ay.length=v.goals.length:=by unfold a_.ay;simp
 refine sF.c ?_
 refine KA.gX hO .nil [] (by simp) λu nb h0=>⟨_,rfl,?_⟩
 let nm (k:Nat):List Int:=cr fB KA.key [] ((v.insts.take k).map ma.num)
 have Al:Ow (XL v x lv (KA.At nb (nm 0)::L)) u:=Ow.ord [1,1,1,1,1] h0
 have nup:∀k,dh fB KA.key (nm k):=λk=>dV eK _ List.Pairwise.nil
 have nln:∀k,(nm k).length<=v.insts.length:=λk=>by
  have:=(dp (key:=KA.key) eK ((v.insts.take k).map ma.num) (a:=[])).1
  rw[List.length_map,List.length_take]at this
  simp only[List.length_nil]at this
  show(cr fB KA.key [] ((v.insts.take k).map ma.num)).length<=_
  omega
 refine⟨_,_,Al.rd 0 rfl (by simp),?_⟩
 rw[List.length_map]
 refine aj.each (n:=v.insts.length) (by omega) (λk u=>Ow (XL v x lv (KA.At nb (nm k)::L)) u) Al ?_ ?_
 ·rintro k u2 next bP h2 ar
  refine ae.t (by simpa using bP) ⟨by omega,_,aI bP,_,_,_,_,_,_,rfl,?_⟩
  refine KA.f_ (l:=nm k) (Ow.ord [5] h2) (nup k) (by have:=nln k;omega) v.insts[k].num λu3 h3=>⟨_,rfl,ar _ ?_⟩
  have e:nm (k+1)=bC fB KA.key v.insts[k].num (nm k):=by
   show cr fB KA.key [] ((v.insts.take (k+1)).map ma.num)=_
   rw[List.take_add_one,List.getElem?_eq_getElem bP,List.map_append]
   exact eS _ _ _
  rw[e]
  exact Ow.ord [1,1,1,1,1,0] h3
 ·rintro u2 next h2
  refine ae.f (by simp) ⟨_,_,h2.rd 0 rfl (by simp),?_⟩
  rw[List.length_map]
  have bad:¬v.R4->∀μ',Ow (XL v x lv (KA.At nb (nm v.insts.length)::L)) μ'->K (pB false) μ':=λh u hu=>by
   have:=hk u (Ow.ord [5] hu).drop;rw[decide_eq_false h]at this;exact this
  refine aj.each (n:=v.aS.length) (by omega) (λk u=>Ow (XL v x lv (KA.At nb (nm v.insts.length)::L)) u/\∀p∈v.aS.take k,pe v.ay v.elems p.id/\v.gl p.level/\(p.o=true\/∃i∈v.insts,i.num=p.Gb)) ⟨h2,by simp⟩ ?_ ?_
  ·rintro k u3 v_ bP ⟨h3,hI⟩ iU
   have add:(pe v.ay v.elems v.aS[k].id/\v.gl v.aS[k].level/\(v.aS[k].o=true\/∃i∈v.insts,i.num=v.aS[k].Gb))->∀p∈v.aS.take (k+1),pe v.ay v.elems p.id/\v.gl p.level/\(p.o=true\/∃i∈v.insts,i.num=p.Gb):=λh p hp=>by
    rcases(kW bP).1 hp with hp|rfl
    ·exact hI p hp
    ·exact h
   refine ae.t (by simpa using bP) ⟨by omega,_,aI bP,_,_,_,_,_,_,_,_,_,_,_,_,_,_,_,_,rfl,De hv hl h3 v.aS[k].id λu4 h4=>⟨_,rfl,ae.mk (λh=>bad (λhR=>?_) u4 h4) (λh=>Rz hv hl h4 _ ⟨_,rfl,ae.mk (λh5=>bad (λhR=>?_) u4 h4) (λh5=>ae.mk (λh6=>?_) (λh6=>?_))⟩)⟩⟩
   ·rw[decide_eq_true (hR _ (List.getElem_mem bP)).1]at h;cases h
   ·rw[decide_eq_true (hR _ (List.getElem_mem bP)).2.1]at h5;cases h5
   ·have ho:v.aS[k].o=false:=by simpa using h6
    have hr:pe v.ay v.elems v.aS[k].id:=of_decide_eq_true (by simpa using h)
    have ME:v.gl v.aS[k].level:=of_decide_eq_true (by simpa using h5)
    have Aj:(bI fB KA.key v.aS[k].Gb (nm v.insts.length)).isSome=true↔∃i∈v.insts,i.num=v.aS[k].Gb:=by
     rw[eR eK]
     show(∃x∈cr fB KA.key [] ((v.insts.take v.insts.length).map ma.num),KA.key x=v.aS[k].Gb)↔_
     rw[fY eK,List.take_length]
     constructor
     ·rintro(⟨y,hy,_⟩|⟨y,hy,h7⟩)
      ·cases hy
      ·obtain⟨i,hi,rfl⟩:=List.mem_map.1 hy
       exact⟨i,hi,h7⟩
     ·rintro⟨i,hi,h7⟩;exact .inr ⟨i.num,List.mem_map_of_mem hi,h7⟩
    refine fQ.c ?_
    refine KA.gL (l:=nm v.insts.length) (Ow.ord [5] h4) (nup _) (by have:=nln v.insts.length;omega) v.aS[k].Gb ⟨_,_,rfl,_,rfl,ae.mk (λh7=>bad (λhR=>?_) u4 h4) (λh7=>iU _ ⟨h4,add ⟨hr,ME,.inr (Aj.1 (by
     have h8:(bI KA.ck KA.key (KA.key v.aS[k].Gb) (nm v.insts.length)).isSome=true:=by simpa using h7
     exact h8))⟩⟩)⟩
    rcases(hR _ (List.getElem_mem bP)).2.2 with h8|h8
    ·rw[h8]at ho;cases ho
    ·have h9:=Aj.2 h8
     rw[show bI KA.ck KA.key (KA.key v.aS[k].Gb) (nm v.insts.length)=bI fB KA.key v.aS[k].Gb (nm v.insts.length)from rfl,h9]at h7;cases h7
   ·exact iU _ ⟨h4,add ⟨of_decide_eq_true (by simpa using h),of_decide_eq_true (by simpa using h5),.inl (by simpa using h6)⟩⟩
  ·rintro u3 v_ ⟨h3,hI⟩
   rw[List.take_length]at hI
   refine ae.f (by simp) ?_
   have:=hk u3 (Ow.ord [5] h3).drop
   rw[decide_eq_true (p:=v.R4) hI]at this
   exact this
theorem aaf(hO:Ow (XL v x lv L) μ){K:Kq}(hk:∀μ',Ow (XL v x lv L) μ'->K (pB (decide v.R5)) μ'):ab prog 40 [pP x.b 0] μ K:=by
 have he:=hv.e;have hp:=hv.p
 have hsu:=OF v.aS
 have DI:=Lw v.aS
 refine sE.c λb1 zR b2 hb2=>?_
 have O1:=(hO.new 86 [pP x.b 0] zR).new 4 [pB false] hb2
 refine⟨_,O1.rd 1 rfl (by simp),_,_,O1.rd 2 rfl (by simp),?_⟩
 refine IE .sh v.aS (by omega) O1 λbs u1 h1=>⟨_,rfl,(KE.IP bs).call ⟨_,_,_,rfl,?_⟩⟩
 have bad:¬v.R5->∀{M:List bk} {c} {μ'},Ow (Pt b2 4 [pB c]::Pt b1 86 [pP x.b 0]::XL v x lv M) μ'->(∀{u},Ow (XL v x lv M) u->Ow (XL v x lv L) u)->stM b2 0 [pB false] μ' λzW=>∃r0,aN zW b2 0 1=some [pB r0]/\K (pB r0) zW:=λh {M c μ'} hu hw=>by
  refine hu.st 0 rfl (by simp) λu2 h2=>⟨_,h2.rd 0 rfl (Nat.le_refl 1),?_⟩
  have:=hk u2 (hw h2.drop.drop);rw[decide_eq_false h]at this;exact this
 have hlm:((dM v.aS).map λx=>[KE.arg x]).length=(dM v.aS).length:=by simp
 refine bJ.own (KE.rF bs (dM v.aS) (by omega)) h1
  (λk u=>Ow (Pt b2 4 [pB false]::Pt b1 86 [pP x.b 0]::XL v x lv (KE.At bs (dM v.aS)::L)) u/\∀e∈(dM v.aS).take k,pe v.ay v.elems e.id->dB v.elems e.key)
  (λc u=>c=.ret/\¬v.R5/\Ow (Pt b2 4 [pB false]::Pt b1 86 [pP x.b 0]::XL v x lv L) u) (λk=>?_) (λc=>eG.and (eG.and (eG.own _))) (λu h=>⟨Ow.ord [1,1,1,1,1,1,1,0] h,by simp⟩) ?_ ?_ ?_
 ·intro a b MG ⟨h1,h2⟩
  exact⟨h1.mono MG,h2⟩
 ·rintro k qw u R ⟨h2,hI⟩ dF oM
  have bP:k<(dM v.aS).length:=by simpa using qw
  rw[List.getElem_map]
  have add:(pe v.ay v.elems (dM v.aS)[k].id->dB v.elems (dM v.aS)[k].key)->∀e∈(dM v.aS).take (k+1),pe v.ay v.elems e.id->dB v.elems e.key:=λh e he=>by
   rcases(kW bP).1 he with he|rfl
   ·exact hI e he
   ·exact h
  have hx:Ow (XL v x lv (Pt b2 4 [pB false]::Pt b1 86 [pP x.b 0]::KE.At bs (dM v.aS)::L)) u:=Ow.ord [2,2,2,2,2] h2
  refine⟨_,_,_,_,_,_,_,_,_,_,_,_,rfl,_,h2.rd 1 rfl (by simp),De hv hl hx (dM v.aS)[k].id λu3 h3=>⟨_,rfl,ae.mk (λh=>?_) (λh=>?_)⟩,trivial⟩
  ·have hr:pe v.ay v.elems (dM v.aS)[k].id:=of_decide_eq_true h
   refine⟨_,h3.rd 6 rfl (by simp),_,h3.rd 0 rfl (by simp),sc hv hl h3 (dM v.aS)[k] ⟨_,rfl,ae.mk (λh4=>?_) (λh4=>dF _ ⟨Ow.ord [5,5] h3,add λ_=>of_decide_eq_true (by simpa using h4)⟩)⟩,trivial⟩
   have iA:¬dB v.elems (dM v.aS)[k].key:=of_decide_eq_false (by simpa using h4)
   refine h3.st 5 rfl (by simp) λu4 h5=>oM _ _ ⟨rfl,λhR=>iA (hR.1 _ ((uL _ _).1 ⟨_,List.getElem_mem bP,rfl⟩) hr),?_⟩
   have h6:Ow (XL v x lv (Pt b2 4 [pB false]::Pt b1 86 [pP x.b 0]::KE.At bs (dM v.aS)::L)) u4:=h5
   exact(Ow.ord [7] h6).drop |> Ow.ord [5,5]
  ·exact⟨dF _ ⟨Ow.ord [5,5] h3,add λhr=>absurd hr (of_decide_eq_false h)⟩,trivial⟩
 ·rintro u ⟨h2,hI⟩
  rw[hlm,List.take_length]at hI
  dsimp only[PK]
  refine⟨_,h2.rd 1 rfl (by simp),_,_,h2.rd 2 rfl (by simp),?_⟩
  rw[List.length_map]
  refine aj.each (n:=v.elems.length) (by omega) (λk u=>Ow (Pt b2 4 [pB false]::Pt b1 86 [pP x.b 0]::XL v x lv (KE.At bs (dM v.aS)::L)) u/\∀e∈v.elems.take k,e.acc=true->lH v.aS e.key) ⟨h2,by simp⟩ ?_ ?_
  ·rintro k u3 v_ bP ⟨h3,hJ⟩ iU
   have add:(v.elems[k].acc=true->lH v.aS v.elems[k].key)->∀e∈v.elems.take (k+1),e.acc=true->lH v.aS e.key:=λh e he=>by
    rcases(kW bP).1 he with he|rfl
    ·exact hJ e he
    ·exact h
   have Aj:(bI fO KE.key v.elems[k].key (dM v.aS)).isSome=true↔lH v.aS v.elems[k].key:=by
    rw[eR cH];exact uL _ _
   refine ae.t (by simpa using bP) ⟨by omega,_,aI bP,_,_,_,_,_,_,_,_,_,_,_,_,rfl,ae.mk (λh=>?_) (λh=>iU _ ⟨h3,add λh4=>?_⟩)⟩
   ·refine iT.c ?_
    refine KE.gL (l:=dM v.aS) (Ow.ord [7] h3) hsu (by omega) v.elems[k] ⟨_,_,rfl,_,rfl,ae.mk (λh4=>bad (λhR=>?_) h3 λhu=>(Ow.ord [5] hu).drop) (λh4=>iU _ ⟨h3,add λ_=>Aj.1 (by simpa using h4)⟩)⟩
    have h5:=Aj.2 (hR.2 _ (List.getElem_mem bP) h)
    rw[show bI KE.ck KE.key (KE.key v.elems[k]) (dM v.aS)=bI fO KE.key v.elems[k].key (dM v.aS)from rfl,h5]at h4;cases h4
   ·rw[h4]at h;cases h
  ·rintro u3 v_ ⟨h3,hJ⟩
   rw[List.take_length]at hJ
   refine ae.f (by simp) ?_
   refine h3.st 0 rfl (by simp) λu4 h4=>⟨_,h4.rd 0 rfl (Nat.le_refl 1),?_⟩
   have h5:Ow (XL v x lv (KE.At bs (dM v.aS)::L)) u4:=h4.drop.drop
   have:=hk u4 (Ow.ord [5] h5).drop
   rw[decide_eq_true (p:=v.R5) ⟨λk hk hr=>?_,hJ⟩]at this
   ·exact this
   ·obtain⟨e,he,rfl⟩:=(uL v.aS k).2 hk
    exact hI e he hr
 ·rintro c u ⟨rfl,hR,h2⟩
  dsimp only[PK]
  refine⟨_,h2.rd 0 rfl (by simp),?_⟩
  have:=hk u h2.drop.drop;rw[decide_eq_false hR]at this;exact this
end
theorem ZZ(v:a_)(hv:v.Ok):Pure prog 8 [.agg v.pv] (pI v.first):=by
 have he:=hv.e;have hg:=hv.g
 have DI:v.ay.length=v.goals.length:=by unfold a_.ay;simp
 refine ax.of (DF.c ?_)
 have q1:ab prog 28 [.list 3 .nil []] M0 (λp μ'=>∃b,p=pP b 0/\Ow [KS.At b []] μ'):=KS.gX (L:=[]) trivial .nil [] (by simp) λμ' b h=>⟨b,rfl,h⟩
 have q2:ab prog 29 [.list 12 .nil []] M0 (λp μ'=>∃b,p=pP b 0/\Ow [KE.At b []] μ'):=KE.gX (L:=[]) trivial .nil [] (by simp) λμ' b h=>⟨b,rfl,h⟩
 have q3:ab prog 30 [.list 1 .nil []] M0 (λp μ'=>∃b,p=pP b 0/\Ow [KA.At b []] μ'):=KA.gX (L:=[]) trivial .nil [] (by simp) λμ' b h=>⟨b,rfl,h⟩
 refine q1.q λ_ u1 s1 ⟨st,e1,h1⟩=>⟨_,e1,?_⟩
 refine q2.q λ_ u2 s2 ⟨el,e2,h2⟩=>⟨_,e2,?_⟩
 refine q3.q λ_ u3 s3 ⟨tg,e3,h3⟩=>⟨_,e3,λAu ZA=>?_⟩
 have O0:Ow (KA.At tg []::KE.At el []::KS.At st []::[]) (Mem.or (Mem.or (Mem.or M0 u1) u2) u3):=Ow.side (L:=[KE.At el [],KS.At st []]) (Ow.side (L:=[KS.At st []]) (Ow.side (L:=[]) trivial s1 h1) s2 h2) s3 h3
 let X:XC:=⟨Au,st,el,tg,0⟩
 have O1:=O0.new 96 ([.list 12 .sh (v.elems.map av.pv),.list 16 .sh (v.aS.map eC.pv),.list 9 .sh (v.goals.map Goal.pv),.list 5 .sh (v.insts.map ma.pv),.list 1 .sh (v.cD.map Da),.list 1 .sh (v.JX.map OG),pI v.syms,pI v.c1,pI v.c2,pI v.c3,pI v.c4,pI v.c5,pI v.c6,pP st 0,pP el 0,pP tg 0,pA none]) ZA
 generalize hXV:([.list 12 .sh (v.elems.map av.pv),.list 16 .sh (v.aS.map eC.pv),.list 9 .sh (v.goals.map Goal.pv),.list 5 .sh (v.insts.map ma.pv),.list 1 .sh (v.cD.map Da),.list 1 .sh (v.JX.map OG),pI v.syms,pI v.c1,pI v.c2,pI v.c3,pI v.c4,pI v.c5,pI v.c6,pP st 0,pP el 0,pP tg 0,pA none]:List PV)=XV at*
 have r13:∀{L:List bk} {u:Mem} {i:Nat} {j:Nat} {c:PV},Ow L u->L[i]?=some (Pt Au 96 XV)->XV[j]?=some c->aN u Au j 1=some [c]:=λ{L u i j c} h hi hj=>by
  obtain⟨Fp,Ur⟩:=List.getElem?_eq_some_iff.1 hj
  rw[h.rd i hi (o:=j) (n:=1) (by omega),List.drop_eq_getElem_cons Fp,Ur];rfl
 rw[List.length_map]
 have stl:∀k,(v.ay.take k).length<=1000:=λk=>by rw[List.length_take];omega
 refine aj.ed (n:=v.goals.length) (by omega) (λk s u=>s.2=(v.ay.take k).map Sym.pv/\Ow (m_ s.1 ((v.ay.take k).map Sym.pv).length 3::Pt Au 96 XV::KA.At tg []::KE.At el []::KS.At st (cr aJ KS.key [] (v.ay.take k))::[]) u) ⟨rfl,Ow.nil O1 (.inl rfl)⟩ ?_ ?_
 ·rintro k ⟨fr,_⟩ u next bP ⟨rfl,h4⟩ ar
  dsimp only
  have kq:k<v.ay.length:=by omega
  have iu:v.ay[k]=v.goals[k].st:=List.getElem_map (l:=v.goals) Goal.st
  have uE:((v.ay.take k).map Sym.pv).length<=1000:=by rw[List.length_map];exact stl k
  refine ae.t (by simpa using bP) ⟨by omega,_,aI bP,_,_,_,_,_,_,_,_,_,_,rfl,h4.app rfl (by simp;omega) (by simp;omega) λf2 u5 h5=>⟨_,r13 (i:=1) (j:=13) h5 rfl (by rw[<- hXV];rfl),?_⟩⟩
  have iB:=(dp (key:=KS.key) aF (v.ay.take k) (a:=[])).1
  refine KS.f_ (l:=cr aJ KS.key [] (v.ay.take k)) (Ow.ord [4] h5) (dV aF _ List.Pairwise.nil) (by have:=stl k;simp at iB;omega) v.goals[k].st λu6 h6=>⟨_,rfl,ar _ _ ⟨?_,?_⟩⟩
  ·rw[List.take_add_one,List.getElem?_eq_getElem kq,List.map_append,iu];rfl
  ·have e1:v.ay.take (k+1)=v.ay.take k++[v.goals[k].st]:=by rw[List.take_add_one,List.getElem?_eq_getElem kq,iu];rfl
   rw[e1,eS,List.map_append,List.length_append]
   exact Ow.ord [1,1,1,1,0] h6
 ·rintro⟨fr,_⟩ u next ⟨rfl,h4⟩
  rw[<- DI,List.take_length]at h4 |-
  refine ae.f (by simp) ?_
  rw[List.length_map]
  refine aj.each (n:=v.elems.length) (by omega) (λk u=>Ow (m_ fr (v.ay.map Sym.pv).length 3::Pt Au 96 XV::KA.At tg (cr fB KA.key [] ((v.elems.take k).map av.tag))::KE.At el (cr fO KE.key [] (v.elems.take k))::KS.At st (cr aJ KS.key [] v.ay)::[]) u) h4 ?_ ?_
  ·rintro k u7 adg bP h7 Zj
   have iB:=(dp (key:=KE.key) cH (v.elems.take k) (a:=[])).1
   have hft:=(dp (key:=KA.key) eK ((v.elems.take k).map av.tag) (a:=[])).1
   rw[List.length_map,List.length_take]at hft
   rw[List.length_take]at iB
   simp only[List.length_nil]at hft iB
   have e1:v.elems.take (k+1)=v.elems.take k++[v.elems[k]]:=by rw[List.take_add_one,List.getElem?_eq_getElem bP];rfl
   refine ae.t (by simpa using bP) ⟨by omega,_,aI bP,_,_,_,_,_,_,_,_,_,_,_,_,rfl,_,r13 (i:=1) (j:=14) h7 rfl (by rw[<- hXV];rfl),?_⟩
   refine KE.f_ (l:=cr fO KE.key [] (v.elems.take k)) (Ow.ord [3] h7) (dV cH _ List.Pairwise.nil) (by omega) v.elems[k] λu8 h8=>⟨_,rfl,_,r13 (i:=2) (j:=15) h8 rfl (by rw[<- hXV];rfl),?_⟩
   refine KA.f_ (l:=cr fB KA.key [] ((v.elems.take k).map av.tag)) (Ow.ord [3] h8) (dV eK _ List.Pairwise.nil) (by omega) v.elems[k].tag λu9 h9=>⟨_,rfl,Zj _ ?_⟩
   rw[e1,List.map_append,eS,List.map_singleton,eS]
   exact Ow.ord [2,2,0,0,0] h9
  ·rintro u7 adg h7
   rw[List.take_length]at h7
   refine ae.f (by simp) ((RD .sh v.elems).call ⟨_,_,_,rfl,?_⟩)
   refine Vc fr (jY.ofP (Cd v.elems (by omega))) (by omega) (by omega) (Ow.Sk h7.drop) λlm lv u8 Fj h8=>⟨_,rfl,?_⟩
   have h9:Ow (Pt Au 96 XV::KS.At st (jd v)::KE.At el (kC v)::KA.At tg (sZ v)::SI.DM lm lv::[]) u8:=Ow.ord [2,4,3,2,0] h8 |> λh=>(h.tail λ_ h=>h.tail λ_ h=>h.tail λ_ h=>h.tail λ_ h=>h.tail λ_ h=>h.drop)
   rw[<- hXV]at h9
   refine h9.st 0 rfl (by simp) λu10 h10=>?_
   have h11:Ow (XL v ⟨Au,st,el,tg,lm⟩ lv []) u10:=h10
   refine aaj hv Fj h11 λw1 k1=>⟨_,rfl,aai hv Fj k1 λw2 k2=>⟨_,rfl,aah hv Fj k2 λw3 k3=>⟨_,rfl,aag hv Fj k3 λw4 k4=>⟨_,rfl,aaf hv Fj k4 λw5 k5=>⟨_,rfl,aae hv Fj k5 λw6 k6=>⟨_,rfl,aad hv Fj k6 λw7 k7=>⟨_,rfl,?_⟩⟩⟩⟩⟩⟩⟩
   refine aj.each (n:=7) (by omega) (λk u=>∀(j:Nat) (hj:j<7),j<k->[decide v.R1,decide v.R2,decide v.R3,decide v.R4,decide v.R5,decide v.R6,decide v.R7][j]'(by simpa using hj)=true) (λj hj h=>by omega) ?_ ?_
   ·rintro k w adf bP hI Zi
    have NF:Aq prog 4 (Int.toNat (k:Int)*1) [pB (decide v.R1),pB (decide v.R2),pB (decide v.R3),pB (decide v.R4),pB (decide v.R5),pB (decide v.R6),pB (decide v.R7)]=some (pB ([decide v.R1,decide v.R2,decide v.R3,decide v.R4,decide v.R5,decide v.R6,decide v.R7][k]'(by simpa using bP))):=by
     rcases k with _|_|_|_|_|_|_|k<;>first|omega|kernel_rfl
    refine ae.t (decide_eq_true (by omega)) ⟨by omega,by omega,_,NF,ae.mk (λhb=>?_) (λhb=>Zi _ λj hj Wx=>?_)⟩
    ·rw[aB (by omega) (by omega),(It v.yQ).1 k (by simpa using bP) (λj hj=>hI j (by omega) hj) (by simpa using hb)];rfl
    ·by_cases e:j=k
     ·subst e;simpa using hb
     ·exact hI j hj (by omega)
   ·rintro w adf hI
    refine ae.f (by simp) ?_
    rw[(It v.yQ).2 λb hb=>?_]
    ·rfl
    ·obtain⟨j,hj,rfl⟩:=List.mem_iff_getElem.1 hb
     exact hI j (by simpa using hj) (by simpa using hj)
theorem Mh{α:Type}{l:List α}{k:Nat}(hk:k<l.length){a:α}:a∈l.take (k+1)↔a∈l.take k\/a=l[k]:=by
 rw[List.take_add_one,List.getElem?_eq_getElem hk,List.mem_append];simp
theorem IJ(v:a_):ax prog 6 [.agg v.pv] λp=>∃q:Bool,p=pB q/\(q=false->v.Ok):=by
 refine ax.of (mb.c ?_)
 refine ax.call (KT .sh v.elems 40 (by omega)) ?_
 rintro _ ⟨q,rfl,hq⟩
 refine⟨_,rfl,ae.mk (λ_=>⟨true,rfl,λh=>by cases h⟩) (λh0=>ae.mk (λ_=>⟨true,rfl,λh=>by cases h⟩) (λh1=>ae.mk (λ_=>⟨true,rfl,λh=>by cases h⟩) (λh2=>ae.mk (λ_=>⟨true,rfl,λh=>by cases h⟩) (λh3=>ae.mk (λ_=>⟨true,rfl,λh=>by cases h⟩) (λh4=>?_)))))⟩
 have g0:=hq (nt h0)
 have g1:v.aS.length<=30:=by have:=of_decide_eq_false h1;simp at this;omega
 have g2:v.goals.length<=10:=by have:=of_decide_eq_false h2;simp at this;omega
 have g3:v.insts.length<=30:=by have:=of_decide_eq_false h3;simp at this;omega
 have g4:v.cD.length<=10:=by have:=of_decide_eq_false h4;simp at this;omega
 refine aj.each (n:=v.insts.length) (by omega) (λ_ _=>True) trivial ?_ ?_
 ·intro k u next hk _ ar
  exact ae.t (by simpa using hk) ⟨by omega,_,aI hk,_,_,rfl,ae.mk (λ_=>⟨true,rfl,λh=>by cases h⟩) (λ_=>⟨by omega,_,aI hk,_,rfl,ae.mk (λ_=>⟨true,rfl,λh=>by cases h⟩) (λ_=>ar _ trivial)⟩)⟩
 ·intro u next _
  refine ae.f (by simp) ?_
  refine aj.each (n:=v.cD.length) (by omega) (λk u=>∀l∈v.cD.take k,l.length<=30) (by simp) ?_ ?_
  ·intro k u next hk hI ar
   refine ae.t (by simpa using hk) ⟨by omega,_,aI hk,_,_,rfl,ae.mk (λ_=>⟨true,rfl,λh=>by cases h⟩) (λh5=>ar _ λl hl=>?_)⟩
   rcases(Mh hk).1 hl with hl|rfl
   ·exact hI l hl
   ·have:=of_decide_eq_false h5;simp at this;omega
  ·intro u next hI
   rw[List.take_length]at hI
   refine ae.f (by simp) ?_
   refine aj.each (n:=v.goals.length) (by omega) (λ_ _=>True) trivial ?_ ?_
   ·intro k u next hk _ ar
    exact ae.t (by simpa using hk) ⟨by omega,_,aI hk,_,_,rfl,ae.mk (λ_=>⟨true,rfl,λh=>by cases h⟩) (λ_=>ar _ trivial)⟩
   ·intro u next _
    exact ae.f (by simp) ⟨false,rfl,λ_=>⟨by omega,by omega,by omega,by omega,by omega,λl hl=>by have:=hI l hl;omega⟩⟩
theorem IN(hw:xy)(v:a_):Pure prog 3 [.agg v.pv] (pB true):=by
 refine ax.of (mN.c ?_)
 refine ax.call (IJ v) ?_
 rintro _ ⟨q,rfl,hq⟩
 refine⟨_,rfl,ae.mk (λh=>hw _ _ λμ'=>⟨_,rfl,rfl⟩) (λh=>?_)⟩
 have hv:=hq h
 refine(ZZ v hv).q ⟨_,rfl,?_⟩
 refine(UZ v hv).call ⟨_,rfl,ae.t (by simp) (hw _ _ λμ'=>⟨_,rfl,rfl⟩)⟩
theorem SV:xy:=λμ K h=>runT μ h
theorem Nc(v:a_):Pure prog 3 [.agg v.pv] (pB true):=IN SV v
set_option maxRecDepth 100000
section
variable {w:World}
theorem OB:prog.cellsOf 76=9:=by kernel_rfl
theorem Ov:prog.cellsOf 159=16:=by kernel_rfl
theorem Oz:prog.cellsOf 69=5:=by kernel_rfl
theorem XX:prog.cellsOf 31=13:=by kernel_rfl
theorem DZ:prog.cellsOf 29=6:=by kernel_rfl
theorem JG:prog.cellsOf 63=1:=by kernel_rfl
theorem Ox:prog.cellsOf 26=1:=by kernel_rfl
theorem Tc:prog.cellsOf 27=1:=by kernel_rfl
theorem OC:prog.cellsOf 22=1:=by kernel_rfl
theorem Ou:prog.cellsOf 23=1:=by kernel_rfl
theorem OA:prog.cellsOf 24=1:=by kernel_rfl
theorem Oy:prog.cellsOf 25=1:=by kernel_rfl
theorem JU(n:Nat)(cs:List Value)(h:Reads prog w n 63 cs):∃l:List Int,aY (fj w) [.list 1 .sh (l.map HW)] cs/\(∀s∈l,True)/\l.length<=maxLen:=
 h.lK (pv:=HW) (Q:=λ_=>True) underlying63 fF (by omega) λm' cN _ hr=>(hr.kV underlying3).imp λ_ h=>⟨h.1,trivial⟩
theorem Ys(n:Nat)(cs:List Value)(h:Reads prog w n 76 cs):∃g:Goal,aY (fj w) g.pv cs/\True:=by
 obtain⟨m,rfl,hl,hf⟩:=h.struct underlying76
 rw[OB]at hl
 obtain⟨a,e0,_⟩:=mV _ _ (bW hf 0 0 lG rfl rfl rfl)
 obtain⟨i1,e1,_⟩:=(bW hf 1 3 fF rfl rfl rfl).kV underlying3
 obtain⟨i2,e2,_⟩:=(bW hf 2 4 gB rfl rfl rfl).Cn underlying9
 obtain⟨l,e3,_⟩:=OZ _ _ (bW hf 3 5 Oq rfl rfl rfl)
 obtain⟨b,e4,_⟩:=mV _ _ (bW hf 4 6 lG rfl rfl rfl)
 match cs,hl with
 |[x0,x1,x2,x3,x4,x5,x6,x7,x8],_=>exact⟨⟨a,i1,i2,l,b⟩,(((e0.append e1).append e2).append e3).append e4,trivial⟩
theorem Yo(n:Nat)(cs:List Value)(h:Reads prog w n 159 cs):∃p:eC,aY (fj w) p.pv cs/\True:=by
 obtain⟨m,rfl,hl,hf⟩:=h.struct underlying159
 rw[Ov]at hl
 obtain⟨a,e0,_⟩:=mV _ _ (bW hf 0 0 lG rfl rfl rfl)
 obtain⟨b,e1,_⟩:=mV _ _ (bW hf 1 3 lG rfl rfl rfl)
 obtain⟨c,e2,_⟩:=mV _ _ (bW hf 2 6 lG rfl rfl rfl)
 obtain⟨d,e3,_⟩:=mV _ _ (bW hf 3 9 lG rfl rfl rfl)
 obtain⟨i4,e4,_⟩:=(bW hf 4 12 fF rfl rfl rfl).kV underlying3
 obtain⟨i5,e5⟩:=(bW hf 5 13 uK rfl rfl rfl).pbool underlying4
 obtain⟨i6,e6,_⟩:=(bW hf 6 14 fF rfl rfl rfl).kV underlying3
 obtain⟨i7,e7,_⟩:=(bW hf 7 15 fF rfl rfl rfl).kV underlying3
 match cs,hl with
 |[x0,x1,x2,x3,x4,x5,x6,x7,x8,x9,x10,x11,x12,x13,VQ,x15],_=>exact⟨⟨a,b,c,d,i4,i5,i6,i7⟩,((((((e0.append e1).append e2).append e3).append e4).append e5).append e6).append e7,trivial⟩
theorem Yr(n:Nat)(cs:List Value)(h:Reads prog w n 69 cs):∃i:ma,aY (fj w) i.pv cs/\True:=by
 obtain⟨m,rfl,hl,hf⟩:=h.struct underlying69
 rw[Oz]at hl
 obtain⟨i0,e0,_⟩:=(bW hf 0 0 fF rfl rfl rfl).kV underlying3
 obtain⟨i1,e1,_⟩:=(bW hf 1 1 fF rfl rfl rfl).kV underlying3
 obtain⟨i2,e2,_⟩:=(bW hf 2 2 gB rfl rfl rfl).Cn underlying9
 obtain⟨l,e3,_⟩:=JU _ _ (bW hf 3 3 JG rfl rfl rfl)
 obtain⟨i4,e4⟩:=(bW hf 4 4 uK rfl rfl rfl).pbool underlying4
 match cs,hl with
 |[x0,x1,x2,x3,x4],_=>exact⟨⟨i0,i1,i2,l,i4⟩,(((e0.append e1).append e2).append e3).append e4,trivial⟩
theorem Pa(n:Nat)(cs:List Value)(h:Reads prog w n 29 cs):∃c1 c2 c3 c4 c5 c6:Int,aY (fj w) [pI c1,pI c2,pI c3,pI c4,pI c5,pI c6] cs:=by
 obtain⟨m,rfl,hl,hf⟩:=h.struct underlying29
 rw[DZ]at hl
 obtain⟨i0,e0,_⟩:=(bW hf 0 0 fF rfl rfl rfl).kV underlying3
 obtain⟨i1,e1,_⟩:=(bW hf 1 1 fF rfl rfl rfl).kV underlying3
 obtain⟨i2,e2,_⟩:=(bW hf 2 2 fF rfl rfl rfl).kV underlying3
 obtain⟨i3,e3,_⟩:=(bW hf 3 3 fF rfl rfl rfl).kV underlying3
 obtain⟨i4,e4,_⟩:=(bW hf 4 4 fF rfl rfl rfl).kV underlying3
 obtain⟨i5,e5,_⟩:=(bW hf 5 5 fF rfl rfl rfl).kV underlying3
 match cs,hl with
 |[x0,x1,x2,x3,x4,x5],_=>exact⟨i0,i1,i2,i3,i4,i5,((((e0.append e1).append e2).append e3).append e4).append e5⟩
theorem Yk(n:Nat)(cs:List Value)(h:Reads prog w n 31 cs):∃v:a_,aY (fj w) v.pv cs/\True:=by
 obtain⟨m,rfl,hl,hf⟩:=h.struct underlying31
 rw[XX]at hl
 obtain⟨l0,e0,_⟩:=(bW hf 0 0 OC rfl rfl rfl).lK (pv:=av.pv) (Q:=λ_=>True) underlying22 GQ (by omega) λm' cN _ hr=>O_ m' cN hr
 obtain⟨l1,e1,_⟩:=(bW hf 1 1 Ou rfl rfl rfl).lK (pv:=eC.pv) (Q:=λ_=>True) underlying23 Ov (by omega) λm' cN _ hr=>Yo m' cN hr
 obtain⟨l2,e2,_⟩:=(bW hf 2 2 OA rfl rfl rfl).lK (pv:=Goal.pv) (Q:=λ_=>True) underlying24 OB (by omega) λm' cN _ hr=>Ys m' cN hr
 obtain⟨l3,e3,_⟩:=(bW hf 3 3 Oy rfl rfl rfl).lK (pv:=ma.pv) (Q:=λ_=>True) underlying25 Oz (by omega) λm' cN _ hr=>Yr m' cN hr
 obtain⟨l4,e4,_⟩:=(bW hf 4 4 Ox rfl rfl rfl).lK (pv:=Da) (Q:=λ_=>True) underlying26 JG (by omega) λm' cN _ hr=>(JU m' cN hr).imp λ_ h=>⟨h.1,trivial⟩
 obtain⟨l5,e5,_⟩:=(bW hf 5 5 Tc rfl rfl rfl).lK (pv:=OG) (Q:=λ_=>True) underlying27 gB (by omega) λm' cN _ hr=>(hr.Cn underlying9).imp λ_ h=>⟨h.1,trivial⟩
 obtain⟨i6,e6,_⟩:=(bW hf 6 6 fF rfl rfl rfl).kV underlying3
 obtain⟨c1,c2,c3,c4,c5,c6,e7⟩:=Pa _ _ (bW hf 7 7 DZ rfl rfl rfl)
 match cs,hl with
 |[x0,x1,x2,x3,x4,x5,x6,x7,x8,x9,x10,x11,x12],_=>exact⟨⟨l0,l1,l2,l3,l4,l5,i6,c1,c2,c3,c4,c5,c6⟩,((((((e0.append e1).append e2).append e3).append e4).append e5).append e6).append e7,trivial⟩
end
open Go.ChangeShapes Go.WideShapes Go.ChangeAt
theorem Co:ownKnob prog.godebug=none:=by kernel_rfl
theorem gF:laidOutB Tryz.checked.prog=true/\mapsRowed Tryz.checked.prog=true/\Tryz.checked.prog.plainKeys=true:=Go.ClosedOfChecked.closed_of_checked Tryz.checked (by kernel_rfl) (by kernel_rfl) (by kernel_rfl)
theorem oe:laidOutB prog=true:=gF.1
set_option maxRecDepth 100000 in
theorem AuditRaw.lifted(os:Os)(started:os.Started)(H:Type)(enc:TypeId×Value->H):
  ReturnsInHanded {} Tryz.checked os 3 .any (Rows.auditRawSpec.pre6 enc prog f3 Rows.auditRawRow.domain false) (Rows.auditRawSpec.post enc prog f3 false true false false):=by
 refine returnsInHanded_of_change (C:=Tryz.checked) Co started (by kernel_rfl) func3
  (ChangeSpec.witness6 (enc:=enc) (C:=Tryz.checked) false ⟨#[],#[.agg #[.slice none 0 0,.slice none 0 0,.slice none 0 0,.slice none 0 0,.slice none 0 0,.slice none 0 0,.int .i64 0,.int .i64 0,.int .i64 0,.int .i64 0,.int .i64 0,.int .i64 0,.int .i64 0]],[]⟩ 12 (by kernel_rfl) (by kernel_rfl) (by kernel_rfl) (by kernel_rfl)) ?_
 intro W base args ds gs before Fe hW ali _
 have CO:∀(j:Nat) t v,f3.params[j]?=some t->args[j]?=some v->Value.okWide prog W .any base t v:=Fe
 have hW':=hW
 obtain⟨p,q,hA0,hV,rfl,hfz,My⟩:=hW
 have hA:DataW.TrodAll enc prog W 0 (λ_=>true) true f3.params.toList args.toList ds p:=hA0
 rw[params3]at hA CO
 obtain⟨v0,vs0,d0,ds0,p0,q0,jP,rfl,rfl,h0,r0⟩:=trodAll_cons hA
 obtain⟨rfl,rfl,rfl⟩:=trodAll_nil r0
 obtain rfl:args= #[v0]:=by cases args;simp_all
 obtain⟨rfl,rfl⟩:=trodVars_none hV
 have lt0:∀x∈p0,x.block<W.heap.size:=by obtain⟨m,hm⟩:=h0;exact DataW.trod_lt m _ _ _ hm
 obtain⟨a0,e0,w0⟩:=TB underlying31 Yk (CO 0 31 v0 rfl rfl) h0
 clear hA0 Fe
 refine(ax.calls (vs:=[v0]) (Nc a0) (bj.cons rfl e0 (bj.nil _))).mono λe W' ⟨⟨v,x,Z,he,hr,hx⟩,bel⟩=>?_
 subst hx;subst he;rw[hr.ofRaw.1]
 exact⟨_,rfl,_,_,_,[],_,[],hW',trodAll_mk1 (shut_bool underlying4 _),(trodAll_cons_mk (Below.trod oe (by kernel_rfl) (of_decide_eq_true (by kernel_rfl)) h0 bel lt0) trodAll_mk0),rfl,bel.frame _,λh=>by cases h⟩
theorem AuditRaw.hm:Nat.ble 6 Tryz.checked.prog.types.size=true:=by kernel_rfl
theorem AuditRaw.ML:lb Tryz.checked.prog 6 4=true:=by kernel_rfl
theorem AuditRaw.fs4:((Tryz.checked.prog.grown 6 [4]).all λu=>(Tryz.checked.prog.partsOf u).all λv=>lb Tryz.checked.prog 6 v)=true:=by kernel_rfl
theorem AuditRaw.Ip:lb Tryz.checked.prog 6 31=true:=by kernel_rfl
theorem AuditRaw.alM:((Tryz.checked.prog.grown 6 [31]).all λu=>(Tryz.checked.prog.partsOf u).all λv=>lb Tryz.checked.prog 6 v)=true:=by kernel_rfl
theorem AuditRaw.ep:f3.params.toList=[31]:=by kernel_rfl
theorem AuditRaw.ev:f3.params.toList++Rows.auditRawSpec.plain.varTypes Tryz.checked.prog=[31]:=by kernel_rfl
theorem AuditRaw.er:f3.resultTypes.toList=[4]:=by kernel_rfl
theorem AuditRaw.vo4:Tryz.checked.prog.veiledOwn 4=true:=eW (by rw[Go.az.bX 6 AuditRaw.hm AuditRaw.ML];kernel_rfl)
theorem AuditRaw.agl:Tryz.checked.prog.veiledOwn 31=true:=eW (by rw[Go.az.bX 6 AuditRaw.hm AuditRaw.Ip];kernel_rfl)
theorem AuditRaw.vf:Rows.auditRawRow.veiledFits Tryz.checked.prog f3.params.toList (f3.params.toList++Rows.auditRawSpec.plain.varTypes Tryz.checked.prog++f3.resultTypes.toList)=true:=by
 rw[AuditRaw.ev,AuditRaw.er]
 have e:(Rows.auditRawRow.laid.filterMap λx=>(Tryz.checked.prog.globalNamed x.1).bind λg=>(Tryz.checked.prog.globals[g]?).map (·.type))=[]:=by kernel_rfl
 have ha:([31,4]).all (Tryz.checked.prog.veiledOwn ·)=true:=by simp only[List.all_cons,List.all_nil,Bool.and_true,AuditRaw.vo4,AuditRaw.agl]
 unfold OpenClaim.veiledFits
 rw[e,List.append_nil]
 rw[Bool.and_eq_true,Bool.or_eq_true]
 exact⟨by kernel_rfl,.inl ha⟩
theorem and2{a b:Bool}(h:a=true)(k:b=true):(a&&b)=true:=by rw[h,k];rfl
set_option maxHeartbeats 0 in
theorem AuditRaw.closed:joinedFacts Tryz.checked.prog 3 f3 Rows.auditRawSpec Rows.auditRawRow=true:=by
 unfold joinedFacts
 repeat' with_reducible apply and2
 ·as_aux_lemma=>kernel_rfl
 ·as_aux_lemma=>exact gF.1
 ·as_aux_lemma=>exact gF.2.1
 ·as_aux_lemma=>rw[<- Array.all_toList,AuditRaw.ep];simp only[List.any_cons,List.any_nil,List.all_cons,List.all_nil,List.cons_append,List.nil_append,Go.az.dQ 6 AuditRaw.hm AuditRaw.Ip];kernel_rfl
 ·as_aux_lemma=>kernel_rfl
 ·as_aux_lemma=>kernel_rfl
 ·as_aux_lemma=>kernel_rfl
 ·as_aux_lemma=>kernel_rfl
 ·as_aux_lemma=>kernel_rfl
 ·as_aux_lemma=>kernel_rfl
 ·as_aux_lemma=>kernel_rfl
 ·as_aux_lemma=>kernel_rfl
 ·as_aux_lemma=>kernel_rfl
 ·as_aux_lemma=>rw[AuditRaw.ev];simp only[List.any_cons,List.any_nil,List.all_cons,List.all_nil,List.cons_append,List.nil_append,Go.az.mapsRec_eq 6 AuditRaw.hm AuditRaw.Ip];kernel_rfl
 ·as_aux_lemma=>rw[AuditRaw.ev];simp only[List.any_cons,List.any_nil,List.all_cons,List.all_nil,List.cons_append,List.nil_append,Go.az.ifacesRec_eq 6 AuditRaw.hm AuditRaw.Ip];kernel_rfl
 ·as_aux_lemma=>kernel_rfl
 ·as_aux_lemma=>rw[AuditRaw.ev];simp only[List.any_cons,List.any_nil,List.all_cons,List.all_nil,List.cons_append,List.nil_append,Go.az.e_ 6 AuditRaw.hm AuditRaw.Ip AuditRaw.alM];kernel_rfl
 ·as_aux_lemma=>rw[AuditRaw.ev,AuditRaw.er];simp only[List.any_cons,List.any_nil,List.all_cons,List.all_nil,List.cons_append,List.nil_append,Go.az.dn 6 AuditRaw.hm AuditRaw.ML,Go.az.dn 6 AuditRaw.hm AuditRaw.Ip];kernel_rfl
 ·as_aux_lemma=>kernel_rfl
 ·as_aux_lemma=>rw[<- Array.all_toList,AuditRaw.er];simp only[List.any_cons,List.any_nil,List.all_cons,List.all_nil,List.cons_append,List.nil_append,Go.az.dQ 6 AuditRaw.hm AuditRaw.ML];kernel_rfl
 ·as_aux_lemma=>rw[AuditRaw.er];simp only[List.any_cons,List.any_nil,List.all_cons,List.all_nil,List.cons_append,List.nil_append,Go.az.ifacesRec_eq 6 AuditRaw.hm AuditRaw.ML];kernel_rfl
 ·as_aux_lemma=>rw[AuditRaw.er];simp only[List.any_cons,List.any_nil,List.all_cons,List.all_nil,List.cons_append,List.nil_append,Go.az.e_ 6 AuditRaw.hm AuditRaw.ML AuditRaw.fs4];kernel_rfl
 ·as_aux_lemma=>rw[gF.2.2];kernel_rfl
 ·as_aux_lemma=>kernel_rfl
 ·as_aux_lemma=>kernel_rfl
 ·as_aux_lemma=>kernel_rfl
 ·as_aux_lemma=>kernel_rfl
 ·as_aux_lemma=>kernel_rfl
 ·as_aux_lemma=>kernel_rfl
 ·as_aux_lemma=>kernel_rfl
 ·as_aux_lemma=>rw[AuditRaw.ev,AuditRaw.er];simp only[List.any_cons,List.any_nil,List.all_cons,List.all_nil,List.cons_append,List.nil_append,Go.az.bX 6 AuditRaw.hm AuditRaw.ML,Go.az.bX 6 AuditRaw.hm AuditRaw.Ip];kernel_rfl
 ·as_aux_lemma=>exact AuditRaw.vf
theorem AuditRaw.proved:Rows.AuditRawSaid:=
 OpenClaim.holds_of_wide 3 f3 rfl rfl rfl rfl rfl rfl rfl ⟨rfl,rfl,rfl,rfl,rfl⟩ rfl rfl rfl rfl rfl (by kernel_rfl) func3 AuditRaw.closed
  (of_decide_eq_true (by kernel_rfl)) (by unfold Func.isWrapper;first|(rw[if_pos (by decide +kernel)];kernel_rfl)|(rw[if_neg (by decide +kernel)];exact⟨rfl,rfl⟩))
  (λos started H enc _=>AuditRaw.lifted os started H enc)
end Go.Proofs.YtbkejjmjopgpoaaGreat
