/- What is proved: the statement ReteMatches, as it is given. Conditions: none. -/
import Derived.Test.YtbodiiomcfgokaaGreatB15
import Derived.WalkKit
import Derived.ProofKit
import Derived.OpenShut
import Derived.ShutString
set_option linter.all false
namespace Go.Proofs.YtbodiiomcfgokaaGreat
open Go.Proofs.Tryz Go.ChangeShapes Go.WideShapes Go.ChangeAt Go.RowKit Go.aP
set_option maxRecDepth 100000 in
theorem ReteMatches.lifted(os:Os)(started:os.Started)(H:Type)(enc:TypeId×Value->H):
  ReturnsInHanded {} Tryz.checked os 11 .any (Rows.reteMatchesSpec.pre6 enc prog f11 Rows.reteMatchesRow.domain false) (Rows.reteMatchesSpec.post enc prog f11 false true false false):=by
 refine returnsInHanded_of_change (C:=Tryz.checked) Ur started (by kernel_rfl) func11
  (ChangeSpec.witness6 (enc:=enc) (C:=Tryz.checked) false ⟨#[],#[.slice none 0 0,.slice none 0 0,.int .i64 0],[]⟩ 12 (by kernel_rfl) (by kernel_rfl) (by kernel_rfl) (by kernel_rfl)) ?_
 intro W base args ds gs before WO hW al0 _;have NW:∀(j:Nat) t v,f11.params[j]?=some t->args[j]?=some v->Value.okWide prog W .any base t v:=WO;have hW':=hW;obtain⟨p,q,hA0,hV,rfl,hfz,HO⟩:=hW;have hA:DataW.TrodAll enc prog W 0 (λ_=>true) true f11.params.toList args.toList ds p:=hA0;rw[params11]at hA NW;obtain⟨v0,vs0,d0,ds0,p0,q0,Xl,rfl,rfl,h0,r0⟩:=trodAll_cons hA;obtain⟨v1,vs1,d1,ds1,p1,q1,rfl,rfl,rfl,h1,r1⟩:=trodAll_cons r0;obtain⟨v2,vs2,d2,ds2,p2,q2,rfl,rfl,rfl,h2,r2⟩:=trodAll_cons r1;obtain⟨rfl,rfl,rfl⟩:=trodAll_nil r2;obtain rfl:args= #[v0,v1,v2]:=by cases args;simp_all
 obtain⟨rfl,rfl⟩:=trodVars_none hV;have lt0:∀x∈p0,x.block<W.heap.size:=by obtain⟨m,hm⟩:=h0;exact DataW.trod_lt m _ _ _ hm
 obtain⟨a0,e0,w0⟩:=Hm underlying43 PJ (by omega) Yk (NW 0 43 v0 rfl rfl) h0;have lt1:∀x∈p1,x.block<W.heap.size:=by obtain⟨m,hm⟩:=h1;exact DataW.trod_lt m _ _ _ hm
 obtain⟨a1,e1,w1⟩:=Hm underlying29 PL (by omega) Yn (NW 1 29 v1 rfl rfl) h1;have lt2:∀x∈p2,x.block<W.heap.size:=by obtain⟨m,hm⟩:=h2;exact DataW.trod_lt m _ _ _ hm
 obtain⟨a2,e2,w2⟩:=Uw underlying3 (NW 2 3 v2 rfl rfl) h2;clear hA0 WO;refine(au.calls (vs:=[v0,v1,v2]) (FM a0 w0 a1 w1 a2) (bn.cons rfl e0 (bn.cons rfl e1 (bn.cons rfl e2 (bn.nil _))))).mono λe W' ⟨⟨v,x,Z,he,hr,hx⟩,bel⟩=>?_;subst hx;subst he;rw[hr.ofRaw.1];exact⟨_,rfl,_,_,_,[],_,[],hW',trodAll_mk1 (shut_bool underlying4 _),(trodAll_cons_mk (Below.trod Az (by kernel_rfl) (of_decide_eq_true (by kernel_rfl)) h0 bel lt0) (trodAll_cons_mk (Below.trod Az (by kernel_rfl) (of_decide_eq_true (by kernel_rfl)) h1 bel lt1) (trodAll_cons_mk (Below.trod Az (by kernel_rfl) (of_decide_eq_true (by kernel_rfl)) h2 bel lt2) trodAll_mk0))),rfl,bel.frame _,λh=>by cases h⟩
theorem and2{a b:Bool}(h:a=true)(k:b=true):(a&&b)=true:=by rw[h,k];rfl
set_option maxHeartbeats 0 in
theorem ReteMatches.closed:joinedFacts Tryz.checked.prog 11 f11 Rows.reteMatchesSpec Rows.reteMatchesRow=true:=by
 unfold joinedFacts
 repeat' with_reducible apply and2
 all_goals (as_aux_lemma=>kernel_rfl)
theorem ReteMatches.proved:Rows.ReteMatchesSaid:=
 OpenClaim.holds_of_wide 11 f11 rfl rfl rfl rfl rfl rfl rfl ⟨rfl,rfl,rfl,rfl,rfl⟩ rfl rfl rfl rfl rfl (by kernel_rfl) func11 ReteMatches.closed
  (of_decide_eq_true (by kernel_rfl)) (by unfold Func.isWrapper;first|(rw[if_pos (by decide +kernel)];kernel_rfl)|(rw[if_neg (by decide +kernel)];exact⟨rfl,rfl⟩))
  (λos started H enc _=>ReteMatches.lifted os started H enc)
end Go.Proofs.YtbodiiomcfgokaaGreat
