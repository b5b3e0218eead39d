/- What is proved: the statement ReteNames, as it is given. Conditions: none. -/
import Derived.Test.YthaeiehophlooaaGreatB14
import Derived.ProofKit
import Derived.OpenShut
import Derived.ShutString
set_option linter.all false
namespace Go.Proofs.YthaeiehophlooaaGreat
open Go.Proofs.Tryz Go.ChangeShapes Go.WideShapes Go.ChangeAt Go.RowKit Go.aO
set_option maxRecDepth 100000 in
theorem ReteNames.lifted(os:Os)(started:os.Started)(H:Type)(enc:TypeId×Value->H):
  ReturnsInHanded {} Tryz.checked os 3 .any (Rows.reteNamesSpec.pre6 enc prog f3 Rows.reteNamesRow.domain false) (Rows.reteNamesSpec.post enc prog f3 false true false false):=by
 refine returnsInHanded_of_change (C:=Tryz.checked) UM started (by kernel_rfl) func3
  (ChangeSpec.witness6 (enc:=enc) (C:=Tryz.checked) false ⟨#[],#[.agg #[.string ByteArray.empty,.slice none 0 0,.slice none 0 0],.slice none 0 0],[]⟩ 12 (by kernel_rfl) (by kernel_rfl) (by kernel_rfl) (by kernel_rfl)) ?_
 intro W base args ds gs before Xi hW amm _;have RB:∀(j:Nat) t v,f3.params[j]?=some t->args[j]?=some v->Value.okWide prog W .any base t v:=Xi;have hW':=hW;obtain⟨p,q,hA0,hV,rfl,hfz,HW⟩:=hW;have hA:DataW.TrodAll enc prog W 0 (λ_=>true) true f3.params.toList args.toList ds p:=hA0;rw[params3]at hA RB;obtain⟨v0,vs0,d0,ds0,p0,q0,XE,rfl,rfl,h0,r0⟩:=trodAll_cons hA;obtain⟨v1,vs1,d1,ds1,p1,q1,rfl,rfl,rfl,h1,r1⟩:=trodAll_cons r0;obtain⟨rfl,rfl,rfl⟩:=trodAll_nil r1;obtain rfl:args= #[v0,v1]:=by cases args;simp_all
 obtain⟨rfl,rfl⟩:=trodVars_none hV;have lt0:∀x∈p0,x.block<W.heap.size:=by obtain⟨m,hm⟩:=h0;exact DataW.trod_lt m _ _ _ hm
 obtain⟨a0,e0,w0⟩:=UQ underlying25 YA (RB 0 25 v0 rfl rfl) h0;have lt1:∀x∈p1,x.block<W.heap.size:=by obtain⟨m,hm⟩:=h1;exact DataW.trod_lt m _ _ _ hm
 obtain⟨a1,e1,w1⟩:=QR underlying26 Qi (by omega) YD (RB 1 26 v1 rfl rfl) h1;clear hA0 Xi;refine(av.calls (vs:=[v0,v1]) (KQ a0 a1 w1) (bp.cons rfl e0 (bp.cons rfl e1 (bp.nil _)))).mono λe W' ⟨⟨v,x,Z,he,hr,hx⟩,bel⟩=>?_;subst hx;subst he;rw[hr.ofRaw.1];exact⟨_,rfl,_,_,_,[],_,[],hW',trodAll_mk1 (shut_bool underlying4 _),(trodAll_cons_mk (Below.trod Hr (by kernel_rfl) (of_decide_eq_true (by kernel_rfl)) h0 bel lt0) (trodAll_cons_mk (Below.trod Hr (by kernel_rfl) (of_decide_eq_true (by kernel_rfl)) h1 bel lt1) trodAll_mk0)),rfl,bel.frame _,λh=>by cases h⟩
theorem and2{a b:Bool}(h:a=true)(k:b=true):(a&&b)=true:=by rw[h,k];rfl
set_option maxHeartbeats 0 in
theorem ReteNames.closed:joinedFacts Tryz.checked.prog 3 f3 Rows.reteNamesSpec Rows.reteNamesRow=true:=by
 unfold joinedFacts
 repeat' with_reducible apply and2
 all_goals (as_aux_lemma=>kernel_rfl)
theorem ReteNames.proved:Rows.ReteNamesSaid:=
 OpenClaim.holds_of_wide 3 f3 rfl rfl rfl rfl rfl rfl rfl ⟨rfl,rfl,rfl,rfl,rfl⟩ rfl rfl rfl rfl rfl (by kernel_rfl) func3 ReteNames.closed
  (of_decide_eq_true (by kernel_rfl)) (by unfold Func.isWrapper;first|(rw[if_pos (by decide +kernel)];kernel_rfl)|(rw[if_neg (by decide +kernel)];exact⟨rfl,rfl⟩))
  (λos started H enc _=>ReteNames.lifted os started H enc)
end Go.Proofs.YthaeiehophlooaaGreat
