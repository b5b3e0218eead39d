/- What is proved: the statement RetePlays, as it is given. Conditions: none. -/
import Derived.Test.YthaeiehophlooaaGreatB15
import Derived.WalkKit
import Derived.ProofKit
import Derived.OpenShut
import Derived.ShutString
set_option linter.all false
namespace Go.Proofs.YthaeiehophlooaaGreat
open Go.Proofs.Tryz Go.ChangeShapes Go.WideShapes Go.ChangeAt Go.RowKit Go.aP
set_option maxRecDepth 100000 in
theorem RetePlays.lifted(os:Os)(i:os.Started)(H:Type)(enc:TypeId×Value->H):
  ReturnsInHanded {} Tryz.checked os 4 .any (Rows.retePlaysSpec.pre6 enc prog f4 Rows.retePlaysRow.domain false) (Rows.retePlaysSpec.post enc prog f4 false true false false):=by
 refine returnsInHanded_of_change (C:=Tryz.checked) VE i (by kernel_rfl) func4
  (ChangeSpec.witness6 (enc:=enc) (C:=Tryz.checked) false ⟨#[],#[.int .i64 0,.int .i64 0,.slice none 0 0],[]⟩ 12 (by kernel_rfl) (by kernel_rfl) (by kernel_rfl) (by kernel_rfl)) ?_
 intro W base g ds gs A Yd hW anl _;have G:∀(j:Nat) t v,f4.params[j]?=some t->g[j]?=some v->Value.okWide prog W .any base t v:=Yd;have Y:=hW;obtain⟨p,q,y,hV,rfl,hfz,IN⟩:=hW;have hA:DataW.TrodAll enc prog W 0 (λ_=>true) true f4.params.toList g.toList ds p:=y;rw[params4]at hA G;obtain⟨L,vs0,d0,ds0,p0,q0,Yx,rfl,rfl,h0,r0⟩:=trodAll_cons hA;obtain⟨J,vs1,d1,ds1,p1,q1,rfl,rfl,rfl,h1,r1⟩:=trodAll_cons r0;obtain⟨I,vs2,d2,ds2,p2,q2,rfl,rfl,rfl,h2,r2⟩:=trodAll_cons r1;obtain⟨rfl,rfl,rfl⟩:=trodAll_nil r2;obtain rfl:g= #[L,J,I]:=by cases g;simp_all
 obtain⟨rfl,rfl⟩:=trodVars_none hV;have U:∀x∈p0,x.block<W.heap.size:=by obtain⟨m,w⟩:=h0;exact DataW.trod_lt m _ _ _ w
 obtain⟨a0,e0,w0⟩:=MU underlying3 (G 0 3 L rfl rfl) h0;have Q:∀x∈p1,x.block<W.heap.size:=by obtain⟨m,w⟩:=h1;exact DataW.trod_lt m _ _ _ w
 obtain⟨a1,e1,w1⟩:=MU underlying3 (G 1 3 J rfl rfl) h1;have O:∀x∈p2,x.block<W.heap.size:=by obtain⟨m,w⟩:=h2;exact DataW.trod_lt m _ _ _ w
 obtain⟨a2,e2,w2⟩:=Rz underlying63 MF (by omega) VB (G 2 63 I rfl rfl) h2;clear y Yd;refine(av.calls (vs:=[L,J,I]) (LK a0 a1 a2 w2) (br.cons rfl e0 (br.cons rfl e1 (br.cons rfl e2 (br.nil _))))).mono λe W' ⟨⟨v,x,Z,he,hr,hx⟩,r⟩=>?_;subst hx;subst he;rw[hr.ofRaw.1];exact⟨_,rfl,_,_,_,[],_,[],Y,trodAll_mk1 (shut_bool underlying4 _),(trodAll_cons_mk (Below.trod Bm (by kernel_rfl) (of_decide_eq_true (by kernel_rfl)) h0 r U) (trodAll_cons_mk (Below.trod Bm (by kernel_rfl) (of_decide_eq_true (by kernel_rfl)) h1 r Q) (trodAll_cons_mk (Below.trod Bm (by kernel_rfl) (of_decide_eq_true (by kernel_rfl)) h2 r O) trodAll_mk0))),rfl,r.frame _,λh=>by cases h⟩
theorem and2{a b:Bool}(h:a=true)(k:b=true):(a&&b)=true:=by rw[h,k];rfl
set_option maxHeartbeats 0 in
theorem RetePlays.closed:joinedFacts Tryz.checked.prog 4 f4 Rows.retePlaysSpec Rows.retePlaysRow=true:=by
 unfold joinedFacts
 repeat' with_reducible apply and2
 all_goals (as_aux_lemma=>kernel_rfl)
theorem RetePlays.proved:Rows.RetePlaysSaid:=
 OpenClaim.holds_of_wide 4 f4 rfl rfl rfl rfl rfl rfl rfl ⟨rfl,rfl,rfl,rfl,rfl⟩ rfl rfl rfl rfl rfl (by kernel_rfl) func4 RetePlays.closed
  (of_decide_eq_true (by kernel_rfl)) (by unfold Func.isWrapper;first|(rw[if_pos (by decide +kernel)];kernel_rfl)|(rw[if_neg (by decide +kernel)];exact⟨rfl,rfl⟩))
  (λos e H g _=>RetePlays.lifted os e H g)
end Go.Proofs.YthaeiehophlooaaGreat
