import Derived.Test.YtbodiiomcfgokaaGreatB07
open Go.IntKind (wrap)
open List (append_assoc cons_append drop_zero flatten_append flatten_cons flatten_nil getElem?_eq_getElem getElem_mem length_cons length_map length_nil length_replicate length_singleton length_take mem_append mem_cons mem_map perm_middle range replicate take_add_one take_append_drop take_left' take_length)
open Nat (add_mul beq_refl le_refl lt_trans succ_mul zero_add)
open Option (bind_eq_some_iff bind_some toList_some)
set_option linter.all false
namespace Go.aP
open Go.RowKit
structure Mv(μ μ':Mem)(F F':List Nat):Prop where
 cw:∀x,μ x≠none->x∉F->μ' x=μ x
 grow:∀x∈F',x∈F\/μ x=none
theorem Mv.refl(μ:Mem)(F:List Nat):Mv μ μ F F:=⟨λ_ _ _=>rfl,λ_ h=>.inl h⟩
theorem Mv.trans{μ μ' mR:Mem}{F F' F'':List Nat}(h:Mv μ μ' F F')(k:Mv μ' mR F' F''):Mv μ mR F F'':=by
 have hk:∀x,μ x≠none->x∉F->mR x=μ x:=λx hx hn=>by
  have e:=h.cw x hx hn;have WZ:x∉F':=λh'=>by
   rcases h.grow x h' with h1|h1
   ·exact hn h1
   ·exact hx h1
  rw[k.cw x (by rw[e];exact hx) WZ,e]
 refine⟨hk,λx hx=>?_⟩;rcases k.grow x hx with h1|h1
 ·exact h.grow x h1
 ·by_cases hf:x∈F
  ·exact .inl hf
  ·right;cases hm:μ x with
   |none=>rfl
   |some o=>rw[h.cw x (by rw[hm];simp) hf,hm]at h1;cases h1
theorem Mv.wide{μ μ':Mem}{F F' G:List Nat}(h:Mv μ μ' F F')(hG:∀x∈F,x∈G):Mv μ μ' G (F'++G):=⟨λx hx hn=>h.cw x hx λhf=>hn (hG x hf),λx hx=>by
 rcases mem_append.1 hx with h1|h1
 ·exact(h.grow x h1).imp (hG x) id
 ·exact .inl h1⟩
theorem Mv.sub{μ μ':Mem}{F F' G:List Nat}(h:Mv μ μ' F F')(hG:∀x∈G,x∈F'):Mv μ μ' F G:=⟨h.cw,λx hx=>h.grow x (hG x hx)⟩
theorem Mv.set{μ:Mem}{b:Nat}{o:Option Ob}{F:List Nat}(h:b∈F\/μ b=none):Mv μ (μ.set b o) F (b::F):=⟨λx hx hn=>by
 have:x≠b:=by
  rintro rfl
  rcases h with h|h
  ·exact hn h
  ·exact hx h
 exact Mem.ax _ _ this,λx hx=>by
 rcases mem_cons.1 hx with rfl|h1
 ·exact h
 ·exact .inl h1⟩
theorem DQ{sz:Nat}:∀{R:Lq} {s:Nat},(∀r∈R,r.length=sz)->s<=R.length->(R.flatten).take (s*sz)=(R.take s).flatten
 |R,0,_,_=>by simp
 |[],s+1,_,h=>by simp at h
 |r::R,s+1,hR,h=>by
  have hr:r.length=sz:=hR r (by simp)
  rw[flatten_cons,List.take_succ_cons,flatten_cons,succ_mul,Nat.add_comm,<- hr,List.take_length_add_append,hr,DQ (λx hx=>hR x (by simp[hx])) (by simpa using h)]
theorem xC{sz:Nat}:∀{R:Lq} {s:Nat},(∀r∈R,r.length=sz)->s<=R.length->(R.flatten).drop (s*sz)=(R.drop s).flatten
 |R,0,_,_=>by simp
 |[],s+1,_,h=>by simp at h
 |r::R,s+1,hR,h=>by
  have hr:r.length=sz:=hR r (by simp)
  rw[flatten_cons,List.drop_succ_cons,succ_mul,Nat.add_comm,<- hr,List.drop_length_add_append,hr,xC (λx hx=>hR x (by simp[hx])) (by simpa using h)]
theorem Hi{μ:Mem}{b sz s:Nat}{e:TypeId}{R:Lq}{rest r:List PV}(hR:∀r∈R,r.length=sz)(hm:μ b=some (.cells e (R.flatten++rest)))(hs:R[s]?=some r):ay μ b (s*sz) sz=some r:=by
 have bI:s<R.length:=(List.getElem?_eq_some_iff.1 hs).1;have hr:r.length=sz:=hR r (List.mem_of_getElem? hs);have kP:R.flatten.length=R.length*sz:=dT hR;have hle:s*sz+sz<=R.flatten.length:=by rw[kP,<- succ_mul];exact Nat.mul_le_mul_right _ bI
 simp only[ay,hm];rw[if_pos (by rw[List.length_append];omega),List.drop_append_of_le_length (by omega),xC hR (Nat.le_of_lt bI),List.drop_eq_getElem_cons bI,flatten_cons,append_assoc];have:R[s]=r:=by have:=getElem?_eq_getElem bI;rw[hs]at this;exact(Option.some.inj this).symm
 rw[this,<- hr,take_left'];rfl
theorem CW{sz s:Nat}{R:Lq}{rest r:List PV}(hR:∀r∈R,r.length=sz)(hs:s<R.length)(hr:r.length=sz):dx (R.flatten++rest) (s*sz) r=(R.set s r).flatten++rest:=by
 have kP:R.flatten.length=R.length*sz:=dT hR;have hle:s*sz+sz<=R.flatten.length:=by rw[kP,<- succ_mul];exact Nat.mul_le_mul_right _ hs
 unfold dx;rw[List.take_append_of_le_length (by omega),DQ hR (Nat.le_of_lt hs),hr,List.drop_append_of_le_length hle,show s*sz+sz=(s+1)*sz by rw[succ_mul],xC hR hs,List.set_eq_take_append_cons_drop,if_pos hs];simp[flatten_append]
def sC(Ts e:TypeId)(sz:Nat)(μ:Mem)(b:Nat)(rows:Lq)(F:List Nat):Prop:=
 (F=[b]/\rows=[]/\μ b=some (.cells Ts [.raw (.slice none 0 0),pB false]))\/
 (∃b' c rest,F=[b,b']/\b'≠b/\μ b=some (.cells Ts [.raw (.slice (some ⟨b',0,none⟩) rows.length c),pB false])/\μ b'=some (.cells e (rows.flatten++rest))/\rows.length*sz+rest.length=c*sz/\rows.length<=c)
structure il(Ts e:TypeId)(sz:Nat)(μ:Mem)(b:Nat)(rows:Lq)(F:List Nat):Prop where
 each:∀r∈rows,r.length=sz
 cell:aU rows.flatten=true
 NQ:(F=[b]/\μ b=some (.cells Ts [.list sz .sh rows,pB true]))\/(F=[b]/\rows=[]/\μ b=some (.cells Ts [.list sz .nil [],pB false]))\/sC Ts e sz μ b rows F
theorem sC.at_{Ts e:TypeId}{sz:Nat}{μ:Mem}{b:Nat}{rows:Lq}{F:List Nat}(h:sC Ts e sz μ b rows F):b∈F/\∀x∈F,μ x≠none:=by
 rcases h with⟨rfl,_,h⟩|⟨b',c,rest,rfl,_,h,h',_⟩
 ·simp[h]
 ·refine⟨by simp,λx hx=>?_⟩;simp only[mem_cons,List.not_mem_nil,or_false]at hx;rcases hx with rfl|rfl
  ·rw[h];simp
  ·rw[h'];simp
theorem il.at_{Ts e:TypeId}{sz:Nat}{μ:Mem}{b:Nat}{rows:Lq}{F:List Nat}(h:il Ts e sz μ b rows F):b∈F/\∀x∈F,μ x≠none:=by
 rcases h.NQ with⟨rfl,h1⟩|⟨rfl,_,h1⟩|h1
 ·simp[h1]
 ·simp[h1]
 ·exact h1.at_
theorem il.same{Ts e:TypeId}{sz:Nat}{μ μ':Mem}{b:Nat}{rows:Lq}{F:List Nat}(h:il Ts e sz μ b rows F)(hk:∀x∈F,μ' x=μ x):il Ts e sz μ' b rows F:=by
 have hb:=hk b h.at_.1;refine⟨h.each,h.cell,?_⟩;rcases h.NQ with⟨rfl,h1⟩|⟨rfl,h0,h1⟩|⟨rfl,h0,h1⟩|⟨b',c,rest,rfl,h0,h1,h2,h3⟩
 ·exact .inl ⟨rfl,by rw[hb];exact h1⟩
 ·exact .inr (.inl ⟨rfl,h0,by rw[hb];exact h1⟩)
 ·exact .inr (.inr (.inl ⟨rfl,h0,by rw[hb];exact h1⟩))
 ·exact .inr (.inr (.inr ⟨b',c,rest,rfl,h0,by rw[hb];exact h1,by rw[hk b' (by simp)];exact h2,h3⟩))
theorem sC.slM{Ts e:TypeId}{sz:Nat}{μ:Mem}{b:Nat}{rows:Lq}{F:List Nat}(h:sC Ts e sz μ b rows F)(hr:∀r∈rows,r.length=sz)(hc:aU rows.flatten=true):
  ∃a c μ1,μ b=some (.cells Ts [.raw (.slice a rows.length c),pB false])/\(∀x o,μ1 x=some o->μ x=some o/\x∈F/\x≠b)/\(∀x∈F,x≠b->μ1 x=μ x)/\SlM μ1 a rows.length c sz rows:=by
 rcases h with⟨rfl,rfl,h⟩|⟨b',c,rest,rfl,h0,h1,h2,h3,h4⟩
 ·exact⟨none,0,M0,h,λx o hx=>(by cases hx),λx hx hn=>absurd (by simpa using hx) hn,rfl,le_refl _,.inl rfl,hr,hc,λh=>absurd rfl h⟩
 ·refine⟨_,c,M0.set b' (μ b'),h1,λx o hx=>?_,λx hx hn=>?_,rfl,h4,.inr λx hx=>by cases hx;rfl,hr,hc,λ_=>⟨b',0,rfl,?_⟩⟩
  ·by_cases e:x=b'
   ·subst e;rw[Mem.ao]at hx;exact⟨hx,by simp,h0⟩
   ·rw[Mem.ax _ _ e]at hx;cases hx
  ·simp only[mem_cons,List.not_mem_nil,or_false]at hx;rw[hx.resolve_left hn,Mem.ao]
  ·have kP:rows.flatten.length=rows.length*sz:=dT hr;simp only[ay,Mem.ao,h2];rw[if_pos (by simp[kP]),drop_zero,<- kP,take_left'];rfl
theorem il.query{P:Program}{g:FuncId}{args:List PV}{Ts e:TypeId}{sz:Nat}{μ:Mem}{b:Nat}{rows:Lq}{F:List Nat}{K:Kq}{Kq:PV->Prop}(h:il Ts e sz μ b rows F)
  (hc:∀s,aa P g args (M0.set b (some (.ro Ts [.list sz .sh rows,pB s]))) λp _=>Kq p) (hf:∀p,Kq p->p.flat=true) (hk:∀p,Kq p->K p μ):aa P g args μ K:=by
 have one:∀{s:Bool} {μ1:Mem} {c:PV},μ1 b=none->μ b=some (.cells Ts [c,pB s])->gy μ1 c (.list sz .sh rows)->∀x o,(M0.set b (some (.ro Ts [.list sz .sh rows,pB s]))) x=some o->μ1 x=none/\∃T cs ds,o=.ro T ds/\μ x=some (.cells T cs)/\dC μ1 cs ds:=λhn hm hb x o hx=>by
  by_cases e:x=b
  ·subst e;rw[Mem.ao]at hx;cases hx;exact⟨hn,Ts,_,_,rfl,hm,dC.cons hb (dC.refl _ _)⟩
  ·rw[Mem.ax _ _ e]at hx;cases hx
 rcases h.NQ with⟨rfl,hm⟩|⟨rfl,h0,hm⟩|hr
 ·exact aa.query (hc true) (μ1:=M0) (λ_ _ h=>by cases h) (one rfl hm (.same _)) hf hk
 ·subst h0;exact aa.query (hc false) (μ1:=M0) (λ_ _ h=>by cases h) (one rfl hm (.wk (.list sz .nil []))) hf hk
 ·obtain⟨a,c,μ1,hm,h1,_,hs⟩:=hr.slM h.each h.cell;refine aa.query (hc false) (μ1:=μ1) (λx o hx=>(h1 x o hx).1) (one ?_ hm (.list hs)) hf hk;cases hx:μ1 b with
  |none=>rfl
  |some o=>exact absurd rfl (h1 b o hx).2.2
theorem il.list{Ts e:TypeId}{sz:Nat}{μ:Mem}{b:Nat}{rows:Lq}{F:List Nat}(h:il Ts e sz μ b rows F):∃μ' s,GU μ μ'/\μ' b=some (.cells Ts [.list sz .sh rows,pB s])/\Mv μ μ' F [b]:=by
 rcases h.NQ with⟨rfl,hm⟩|⟨rfl,h0,hm⟩|hr
 ·exact⟨μ,true,GU.refl μ,hm,Mv.refl _ _⟩
 ·subst h0;refine⟨μ.set b (some (.cells Ts [.list sz .sh [],pB false])),false,GU.bor (μ1:=M0) (λ_ _ h=>by cases h) λx o hx=>⟨rfl,?_⟩,Mem.ao _ _ _,(Mv.set (.inl (by simp))).sub (by simp)⟩;by_cases e:x=b
  ·subst e;rw[Mem.ao]at hx;cases hx;exact .inr ⟨Ts,_,_,rfl,hm,dC.cons (.wk (.list sz .nil [])) (dC.refl _ _)⟩
  ·rw[Mem.ax _ _ e]at hx;exact .inl hx
 ·obtain⟨a,c,μ1,hm,h1,h2,hs⟩:=hr.slM h.each h.cell;have hb:μ1 b=none:=by
   cases hx:μ1 b with
   |none=>rfl
   |some o=>exact absurd rfl (h1 b o hx).2.2
  refine⟨λx=>if x=b then some (.cells Ts [.list sz .sh rows,pB false])else if μ1 x=none then μ x else none,false,GU.bor (μ1:=μ1) (λx o hx=>(h1 x o hx).1) λx o hx=>?_,if_pos rfl,⟨λx hx hn=>?_,λx hx=>.inl (by simp at hx;rw[hx];exact hr.at_.1)⟩⟩
  ·by_cases e:x=b
   ·subst e;rw[if_pos rfl]at hx;cases hx;exact⟨hb,.inr ⟨Ts,_,_,rfl,hm,dC.cons (.list hs) (dC.refl _ _)⟩⟩
   ·rw[if_neg e]at hx;split at hx
    ·rename_i hn;exact⟨hn,.inl hx⟩
    ·cases hx
  ·have aQ:x≠b:=by rintro rfl;exact hn hr.at_.1
   simp only[if_neg aQ];rw[if_pos];cases Fe:μ1 x with
   |none=>rfl
   |some o=>exact absurd (h1 x o Fe).2.1 hn
theorem il.raw{Ts e:TypeId}{sz:Nat}{μ:Mem}{b:Nat}{rows:Lq}{F:List Nat}(h:il Ts e sz μ b rows F):∃μ',GU μ μ'/\Mv μ μ' F F/\((F=[b]/\μ' b=some (.cells Ts [.list sz .sh rows,pB true]))\/sC Ts e sz μ' b rows F):=by
 rcases h.NQ with⟨rfl,hm⟩|⟨rfl,h0,hm⟩|hr
 ·exact⟨μ,GU.refl μ,Mv.refl _ _,.inl ⟨rfl,hm⟩⟩
 ·subst h0;refine⟨μ.set b (some (.cells Ts [.raw (.slice none 0 0),pB false])),GU.bor (μ1:=M0) (λ_ _ h=>by cases h) λx o hx=>⟨rfl,?_⟩,(Mv.set (.inl (by simp))).sub (by simp),.inr (.inl ⟨rfl,rfl,Mem.ao _ _ _⟩)⟩;by_cases e:x=b
  ·subst e;rw[Mem.ao]at hx;cases hx;exact .inr ⟨Ts,_,_,rfl,hm,dC.cons (.nil sz []) (dC.refl _ _)⟩
  ·rw[Mem.ax _ _ e]at hx;exact .inl hx
 ·exact⟨μ,GU.refl μ,Mv.refl _ _,.inr hr⟩
theorem sC.app{Ts e:TypeId}{sz:Nat}{μ:Mem}{b:Nat}{rows:Lq}{F:List Nat}(h:sC Ts e sz μ b rows F)(hr:∀r∈rows,r.length=sz):∃a c,μ b=some (.cells Ts [.raw (.slice a rows.length c),pB false])/\
  ∀(r:List PV) (bytes:Nat) (K:Option Addr->Nat->Nat->Mem->Prop),r.length=sz->aU r=true->(rows.length+1)*bytes<=140737488355328->rows.length+1<4611686018427387904->
   (∀b' c' rest μ2,b'≠b->μ2 b=μ b->μ2 b'=some (.cells e ((rows++[r]).flatten++rest))->(rows.length+1)*sz+rest.length=c'*sz->rows.length+1<=c'->Mv μ μ2 F [b,b']->K (some ⟨b',0,none⟩) (rows.length+1) c' μ2)->
   fA sz bytes e a rows.length c (.list sz .nr [r]) μ K:=by
 have Yv:∀r:List PV,qd sz sz [r]=true:=λr=>by simp[qd,beq_refl]
 have kP:rows.flatten.length=rows.length*sz:=dT hr;rcases h with⟨rfl,rfl,hm⟩|⟨b0,c,rest,rfl,h0,h1,h2,h3,h4⟩
 ·refine⟨none,0,hm,λr bytes K hl hY hb pJ hK=>?_⟩;unfold fA EU;simp only[Yv,cond_true];refine⟨by simpa using hb,by simpa using pJ,le_refl _,.inr ⟨by simp,by simpa using hY,λh=>by simp at h,λ_=>⟨[],.inl ⟨rfl,rfl⟩,λb' c' hn su=>?_⟩⟩⟩;have aQ:b'≠b:=by rintro rfl;rw[hm]at hn;cases hn
  refine hK b' c' (replicate ((c'-(0+1))*sz) .aY) _ aQ (by rw[Mem.ax _ _ (Ne.symm aQ)]) ?_ ?_ (by simpa using su) ((Mv.set (.inr hn)).sub (by simp))
  ·rw[Mem.ao];simp
  ·simp only[length_nil,length_replicate];rw[<- add_mul];congr 1;simp at su;omega
 ·refine⟨_,c,h1,λr bytes K hl hY hb pJ hK=>?_⟩;unfold fA EU;simp only[Yv,cond_true];have dS:ay μ b0 0 (rows.length*sz)=some rows.flatten:=by
   simp only[ay,h2];rw[if_pos (by simp[kP]),drop_zero,<- kP,take_left'];rfl
  refine⟨by simpa using hb,by simpa using pJ,h4,.inr ⟨by simp,by simpa using hY,λhle=>⟨b0,0,e,_,rfl,h2,by simp[kP,h3],?_⟩,λbI=>⟨_,.inr ⟨b0,0,rfl,dS⟩,λb' c' hn su=>?_⟩⟩⟩
  ·simp only[length_singleton]at hle |-;have Zf:(rows.length+1)*sz<=c*sz:=Nat.mul_le_mul_right _ hle;have fw:sz<=rest.length:=by rw[succ_mul]at Zf;omega
   refine hK b0 c (rest.drop sz) _ h0 (by rw[Mem.ax _ _ (Ne.symm h0)]) ?_ ?_ hle ((Mv.set (.inl (by simp))).sub (by simp))
   ·rw[Mem.ao];congr 2;unfold dx;rw[zero_add,<- kP,take_left' rfl,flatten_cons,flatten_nil,List.append_nil,List.drop_length_add_append,hl,flatten_append];simp
   ·rw[List.length_drop,succ_mul];omega
  ·simp only[length_singleton]at su |-;have aQ:b'≠b:=by rintro rfl;rw[h1]at hn;cases hn
   refine hK b' c' (replicate ((c'-(rows.length+1))*sz) .aY) _ aQ (by rw[Mem.ax _ _ (Ne.symm aQ)]) ?_ ?_ su ((Mv.set (F:=[b,b0]) (.inr hn)).sub (by simp))
   ·rw[Mem.ao];simp
   ·rw[length_replicate,<- add_mul];congr 1;omega
def vR(e:TypeId)(sz:Nat)(μ:Mem)(p:PV)(rows:Lq)(F:List Nat):Prop:=
 (p=.raw (.slice none 0 0)/\rows=[]/\F=[])\/
 (∃b c rest,p=.raw (.slice (some ⟨b,0,none⟩) rows.length c)/\F=[b]/\μ b=some (.cells e (rows.flatten++rest))/\rows.length*sz+rest.length=c*sz/\rows.length<=c)
theorem vR.at_{e:TypeId}{sz:Nat}{μ:Mem}{p:PV}{rows:Lq}{F:List Nat}(h:vR e sz μ p rows F):∀x∈F,μ x≠none:=by
 rcases h with⟨_,_,rfl⟩|⟨b,c,rest,_,rfl,h,_⟩
 ·intro x hx;cases hx
 ·intro x hx;simp at hx;subst hx;rw[h];simp
theorem vR.same{e:TypeId}{sz:Nat}{μ μ':Mem}{p:PV}{rows:Lq}{F:List Nat}(h:vR e sz μ p rows F)(hk:∀x∈F,μ' x=μ x):vR e sz μ' p rows F:=by
 rcases h with h|⟨b,c,rest,h1,rfl,h2,h3⟩
 ·exact .inl h
 ·exact .inr ⟨b,c,rest,h1,rfl,by rw[hk b (by simp)];exact h2,h3⟩
theorem vR.view{e:TypeId}{sz:Nat}{μ:Mem}{p:PV}{rows:Lq}{F:List Nat}(h:vR e sz μ p rows F)(hr:∀r∈rows,r.length=sz)(hc:aU rows.flatten=true):gy μ p (.list sz .sh rows):=by
 rcases h with⟨rfl,rfl,_⟩|⟨b,c,rest,rfl,_,h2,h3,h4⟩
 ·exact .JW none 0 sz (.inl rfl)
 ·have kP:rows.flatten.length=rows.length*sz:=dT hr;refine .list ⟨rfl,h4,.inr λx hx=>by cases hx;rfl,hr,hc,λ_=>⟨b,0,rfl,?_⟩⟩;simp only[ay,h2];rw[if_pos (by simp[kP]),drop_zero,<- kP,take_left'];rfl
theorem vR.app{e:TypeId}{sz:Nat}{μ:Mem}{p:PV}{rows:Lq}{F:List Nat}(h:vR e sz μ p rows F)(hr:∀r∈rows,r.length=sz):∃a c,p=.raw (.slice a rows.length c)/\
  ∀(r:List PV) (bytes:Nat) (K:Option Addr->Nat->Nat->Mem->Prop),r.length=sz->aU r=true->(rows.length+1)*bytes<=140737488355328->rows.length+1<4611686018427387904->
   (∀b' c' rest μ2,μ2 b'=some (.cells e ((rows++[r]).flatten++rest))->(rows.length+1)*sz+rest.length=c'*sz->rows.length+1<=c'->Mv μ μ2 F [b']->K (some ⟨b',0,none⟩) (rows.length+1) c' μ2)->
   fA sz bytes e a rows.length c (.list sz .nr [r]) μ K:=by
 have Yv:∀r:List PV,qd sz sz [r]=true:=λr=>by simp[qd,beq_refl]
 have kP:rows.flatten.length=rows.length*sz:=dT hr;rcases h with⟨rfl,rfl,rfl⟩|⟨b0,c,rest,rfl,rfl,h2,h3,h4⟩
 ·refine⟨none,0,rfl,λr bytes K hl hY hb pJ hK=>?_⟩;unfold fA EU;simp only[Yv,cond_true];refine⟨by simpa using hb,by simpa using pJ,le_refl _,.inr ⟨by simp,by simpa using hY,λh=>by simp at h,λ_=>⟨[],.inl ⟨rfl,rfl⟩,λb' c' hn su=>?_⟩⟩⟩;refine hK b' c' (replicate ((c'-(0+1))*sz) .aY) _ ?_ ?_ (by simpa using su) ((Mv.set (.inr hn)).sub (by simp))
  ·rw[Mem.ao];simp
  ·simp only[length_nil,length_replicate];rw[<- add_mul];congr 1;simp at su;omega
 ·refine⟨_,c,rfl,λr bytes K hl hY hb pJ hK=>?_⟩;unfold fA EU;simp only[Yv,cond_true];have dS:ay μ b0 0 (rows.length*sz)=some rows.flatten:=by
   simp only[ay,h2];rw[if_pos (by simp[kP]),drop_zero,<- kP,take_left'];rfl
  refine⟨by simpa using hb,by simpa using pJ,h4,.inr ⟨by simp,by simpa using hY,λhle=>⟨b0,0,e,_,rfl,h2,by simp[kP,h3],?_⟩,λbI=>⟨_,.inr ⟨b0,0,rfl,dS⟩,λb' c' hn su=>?_⟩⟩⟩
  ·simp only[length_singleton]at hle |-;have Zf:(rows.length+1)*sz<=c*sz:=Nat.mul_le_mul_right _ hle;have fw:sz<=rest.length:=by rw[succ_mul]at Zf;omega
   refine hK b0 c (rest.drop sz) _ ?_ ?_ hle ((Mv.set (.inl (by simp))).sub (by simp))
   ·rw[Mem.ao];congr 2;unfold dx;rw[zero_add,<- kP,take_left' rfl,flatten_cons,flatten_nil,List.append_nil,List.drop_length_add_append,hl,flatten_append];simp
   ·rw[List.length_drop,succ_mul];omega
  ·simp only[length_singleton]at su |-;refine hK b' c' (replicate ((c'-(rows.length+1))*sz) .aY) _ ?_ ?_ su ((Mv.set (F:=[b0]) (.inr hn)).sub (by simp))
   ·rw[Mem.ao];simp
   ·rw[length_replicate,<- add_mul];congr 1;omega
theorem Mem.An{μ:Mem}{b:Nat}{o:Option Ob}(h:μ b=o):μ.set b o=μ:=by
 funext x;by_cases e:x=b
 ·subst e;rw[Mem.ao,h]
 ·rw[Mem.ax _ _ e]
theorem ID{size bytes:Nat}{e:TypeId}{b c:Nat}{rows:Lq}{fl:Fl}{μ:Mem}{cs:List PV}{K:Option Addr->Nat->Nat->Mem->Prop}(hm:μ b=some (.cells e cs))(oB:cs.length=c*size)(hlen:rows.length<=c)(hr:∀r∈rows,r.length=size)(hY:aU rows.flatten=true)
  (hb:rows.length*bytes<=140737488355328) (pJ:rows.length<4611686018427387904) (hK:K (some ⟨b,0,none⟩) rows.length c (μ.set b (some (.cells e (rows.flatten++cs.drop (rows.length*size)))))):fA size bytes e (some ⟨b,0,none⟩) 0 c (.list size fl rows) μ K:=by
 have kP:rows.flatten.length=rows.length*size:=dT hr;unfold fA EU;simp only[qd,beq_refl,cond_true];refine⟨by simpa using hb,by simpa using pJ,Nat.zero_le _,?_⟩;by_cases h0:rows.length=0
 ·have:rows=[]:=List.eq_nil_of_length_eq_zero h0;subst this;refine .inl ⟨rfl,λh=>absurd rfl h,?_⟩;simp only[flatten_nil,List.nil_append,length_nil,Nat.zero_mul,drop_zero]at hK;rw[Mem.An hm]at hK;exact hK
 ·refine .inr ⟨h0,hY,λ_=>⟨b,0,e,cs,rfl,hm,by omega,?_⟩,λh=>by omega⟩;simp only[zero_add,Nat.zero_mul];have:dx cs 0 rows.flatten=rows.flatten++cs.drop (rows.length*size):=by
   unfold dx;simp[kP]
  rw[this];exact hK
theorem ak.down{γ:Type}{body:(Int->γ->Prop)->Int->γ->Prop}{u:γ}{n k:Nat}(hk:k<=n)(hn:n<9223372036854775808)(I:Nat->γ->Prop)(h0:I n u)
  (fE:∀(j:Nat) (u:γ) (next:Int->γ->Prop),k<j->j<=n->I j u->(∀u',I (j-1) u'->next (wrap .i64 ((j:Int)-1)) u')->body next (j:Int) u)
  (eZ:∀(u:γ) (next:Int->γ->Prop),I k u->body next (k:Int) u):ak body (n:Int) u:=by
 refine⟨λm s w=>∃j:Nat,s=(j:Int)/\k<=j/\j<=n/\m=j-k/\I j w,⟨n-k,n,rfl,hk,le_refl _,rfl,h0⟩,?_⟩;rintro m s w ⟨j,rfl,h1,h2,rfl,hI⟩;by_cases h:k<j
 ·refine fE j w _ h h2 hI λu' hu=>⟨j-1-k,by omega,j-1,?_,by omega,by omega,rfl,hu⟩;rw[aD (by omega) (by omega)];omega
 ·have:j=k:=by omega
  subst this;exact eZ w _ hI
theorem aJ{μ:Mem}{b o n:Nat}{T:TypeId}{cs:List PV}(h:μ b=some (.cells T cs))(hl:o+n<=cs.length):ay μ b o n=some ((cs.drop o).take n):=by simp only[ay,h];rw[if_pos hl]
theorem wV{μ:Mem}{b o n:Nat}{T:TypeId}{cs:List PV}(h:μ b=some (.ro T cs))(hl:o+n<=cs.length):ay μ b o n=some ((cs.drop o).take n):=by simp only[ay,h];rw[if_pos hl]
abbrev aR:=Mem->Prop
def Ow:List aR->Mem->Prop
 |[],_=>True
 |A::L,μ=>∃μ1 μ2,Mem.sep μ1 μ2/\μ=μ1.or μ2/\A μ1/\Ow L μ2
theorem Mem.sep.symm{μ ν:Mem}(h:μ.sep ν):ν.sep μ:=λb=>(h b).symm
theorem Mem.or_comm{μ ν:Mem}(h:μ.sep ν):μ.or ν=ν.or μ:=by
 funext b;unfold Mem.or;rcases h b with e|e<;>rw[e]<;>cases hx:μ b<;>cases hy:ν b<;>simp_all
theorem Mem.or_assoc(a b c:Mem):(a.or b).or c=a.or (b.or c):=by
 funext x;unfold Mem.or;cases a x<;>rfl
theorem Mem.wT{a b c:Mem}:a.sep (b.or c)↔a.sep b/\a.sep c:=by
 constructor
 ·intro h;refine⟨λx=>?_,λx=>?_⟩
  ·rcases h x with e|e
   ·exact .inl e
   ·right;cases hb:b x with
    |none=>rfl
    |some o=>rw[Mem.bD hb]at e;cases e
  ·rcases h x with e|e
   ·exact .inl e
   ·right;cases hb:b x with
    |none=>rw[Mem.bH hb]at e;exact e
    |some o=>rw[Mem.bD hb]at e;cases e
 ·rintro⟨h1,h2⟩ x;rcases h1 x with e|e
  ·exact .inl e
  ·rcases h2 x with e'|e'
   ·exact .inl e'
   ·right;rw[Mem.bH e];exact e'
theorem Mem.Qv{a b c:Mem}:(a.or b).sep c↔a.sep c/\b.sep c:=by
 constructor
 ·intro h;have:=Mem.wT.1 h.symm;exact⟨this.1.symm,this.2.symm⟩
 ·rintro⟨h1,h2⟩;exact(Mem.wT.2 ⟨h1.symm,h2.symm⟩).symm
theorem Ow.mono:∀{L:List aR} {μ μ':Mem},(∀b o,μ b=some o->μ' b=some o)->Ow L μ->Ow L μ'
 |[],_,_,_,_=>trivial
 |A::L,μ,μ',h,hO=>by
  obtain⟨μ1,μ2,hs,rfl,hA,hL⟩:=hO
  refine⟨μ1,λb=>match μ1 b with|some _=>none|none=>μ' b,λb=>?_,?_,hA,Ow.mono (λb o hb=>?_) hL⟩
  ·cases hb:μ1 b with
   |none=>exact .inl rfl
   |some o=>exact .inr (by simp[hb])
  ·funext b;cases hb:μ1 b with
   |none=>rw[Mem.bH hb];simp[hb]
   |some o=>rw[Mem.bD hb];exact h b o (Mem.bD hb)
  ·have hn:μ1 b=none:=(hs b).resolve_right (by rw[hb];simp);simp only[hn];exact h b o (by rw[Mem.bH hn];exact hb)
theorem Ow.drop{A:aR}{L:List aR}{μ:Mem}(h:Ow (A::L) μ):Ow L μ:=by
 obtain⟨μ1,μ2,hs,rfl,_,hL⟩:=h;exact hL.mono λb o hb=>by rw[Mem.bH ((hs b).resolve_right (by rw[hb];simp))];exact hb
theorem Ow.imp{A B:aR}{L:List aR}{μ:Mem}(h:Ow (A::L) μ)(hi:∀μ,A μ->B μ):Ow (B::L) μ:=by
 obtain⟨μ1,μ2,hs,e,hA,hL⟩:=h;exact⟨μ1,μ2,hs,e,hi _ hA,hL⟩
theorem Ow.tail{A:aR}{L L':List aR}{μ:Mem}(h:Ow (A::L) μ)(hi:∀μ,Ow L μ->Ow L' μ):Ow (A::L') μ:=by
 obtain⟨μ1,μ2,hs,e,hA,hL⟩:=h;exact⟨μ1,μ2,hs,e,hA,hi _ hL⟩
theorem Ow.swap{A B:aR}{L:List aR}{μ:Mem}(h:Ow (A::B::L) μ):Ow (B::A::L) μ:=by
 obtain⟨μ1,_,hs,rfl,hA,μ2,μ3,DK,rfl,hB,hL⟩:=h;obtain⟨lO,Bq⟩:=Mem.wT.1 hs;exact⟨μ2,μ1.or μ3,Mem.wT.2 ⟨lO.symm,DK⟩,by rw[<- Mem.or_assoc,Mem.or_comm lO,Mem.or_assoc],hB,μ1,μ3,Bq,rfl,hA,hL⟩
theorem Ow.at:∀{L:List aR} (i:Nat) {A:aR} {μ:Mem},L[i]?=some A->Ow L μ->Ow (A::L.eraseIdx i) μ
 |[],i,A,μ,h,_=>by simp at h
 |B::L,0,A,μ,h,hO=>by
  simp only[List.getElem?_cons_zero,Option.some.injEq]at h
  subst h;exact hO
 |B::L,i+1,A,μ,h,hO=>by
  simp only[List.getElem?_cons_succ]at h
  exact(hO.tail λμ h'=>Ow.at i h h').swap
theorem Ow.back:∀{L:List aR} (i:Nat) {A:aR} {μ:Mem},i<L.length->Ow (A::L.eraseIdx i) μ->Ow (L.set i A) μ
 |[],i,A,μ,h,_=>by simp at h
 |B::L,0,A,μ,h,hO=>hO
 |B::L,i+1,A,μ,h,hO=>(Ow.swap hO).tail λμ h'=>Ow.back i (by simpa using h) h'
theorem rk{α:Type}{L:List α}{i:Nat}{a:α}(h:L[i]?=some a):i<L.length:=(List.getElem?_eq_some_iff.1 h).1
theorem Ow.nest:∀{L1 L:List aR} {μ:Mem},Ow (Ow L1::L) μ->Ow (L1++L) μ
 |[],L,μ,h=>h.drop
 |A::L1,L,μ,h=>by
  obtain⟨_,μ2,hs,rfl,⟨μa,μb,DK,rfl,hA,hB⟩,hL⟩:=h
  obtain⟨h1,h2⟩:=Mem.Qv.1 hs;exact⟨μa,μb.or μ2,Mem.wT.2 ⟨DK,h1⟩,Mem.or_assoc _ _ _,hA,Ow.nest ⟨μb,μ2,h2,rfl,hB,hL⟩⟩
theorem Ow.pack:∀{L1 L:List aR} {μ:Mem},Ow (L1++L) μ->Ow (Ow L1::L) μ
 |[],L,μ,h=>⟨M0,μ,Mem.sT μ,(Mem.Eh μ).symm,trivial,h⟩
 |A::L1,L,μ,h=>by
  obtain⟨μa,_,hs,rfl,hA,h⟩:=h
  obtain⟨μb,μ2,DK,rfl,hB,hL⟩:=Ow.pack h;obtain⟨h1,h2⟩:=Mem.wT.1 hs;exact⟨μa.or μb,μ2,Mem.Qv.2 ⟨h2,DK⟩,(Mem.or_assoc _ _ _).symm,⟨μa,μb,h1,rfl,hA,hB⟩,hL⟩
theorem Ow.IC{L1 L L':List aR}{μ:Mem}(h:Ow (L1++L) μ)(hi:∀μ,Ow L μ->Ow L' μ):Ow (L1++L') μ:=(h.pack.tail hi).nest
theorem Ow.comm{L1 L:List aR}{μ:Mem}(h:Ow (L1++L) μ):Ow (L++L1) μ:=by
 have h1:Ow (Ow L::Ow L1::[]) μ:=(h.pack.tail λμ h'=>(Ow.pack (L:=[]) (by simpa using h'))).swap;refine h1.nest.IC λμ h'=>?_;have:=h'.nest;simpa using this
theorem Ow.perm{L L':List aR}(hp:L.Perm L'){μ:Mem}:Ow L μ->Ow L' μ:=by
 induction hp generalizing μ with
 |nil=>exact id
 |cons A _ ih=>exact λh=>h.tail λ_ h'=>ih h'
 |swap A B l=>exact λh=>h.swap
 |trans _ _ h1 h2=>exact λh=>h2 (h1 h)
theorem Ow.pick{P A B L:List aR}{x:aR}{μ:Mem}(h:Ow (P++((A++x::B)++L)) μ):Ow (x::(P++((A++B)++L))) μ:=by
 refine h.perm ?_;have e1:P++((A++x::B)++L)=(P++A)++x::(B++L):=by simp
 have e2:P++((A++B)++L)=(P++A)++(B++L):=by simp
 rw[e1,e2];exact perm_middle
theorem Ow.sK{P A B L:List aR}{x:aR}{μ:Mem}(h:Ow (x::(P++((A++B)++L))) μ):Ow (P++((A++x::B)++L)) μ:=by
 refine h.perm ?_;have e1:P++((A++x::B)++L)=(P++A)++x::(B++L):=by simp
 have e2:P++((A++B)++L)=(P++A)++(B++L):=by simp
 rw[e1,e2];exact perm_middle.symm
theorem Ow.wF{L1 L:List aR}{A:aR}{μ:Mem}(h:Ow (L1++A::L) μ):Ow (A::(L1++L)) μ:=h.perm perm_middle
theorem Ow.Ls{L1 L:List aR}{A:aR}{μ:Mem}(h:Ow (A::(L1++L)) μ):Ow (L1++A::L) μ:=h.perm perm_middle.symm
theorem Ow.ex{α:Type}{A:α->aR}{L:List aR}{μ:Mem}(h:Ow ((λμ=>∃x,A x μ)::L) μ):∃x,Ow (A x::L) μ:=by
 obtain⟨μ1,μ2,hs,e,⟨x,hA⟩,hL⟩:=h;exact⟨x,μ1,μ2,hs,e,hA,hL⟩
theorem Ow.and{p:Prop}{A:aR}{L:List aR}{μ:Mem}(h:Ow ((λμ=>p/\A μ)::L) μ):p/\Ow (A::L) μ:=by
 obtain⟨μ1,μ2,hs,e,⟨hp,hA⟩,hL⟩:=h;exact⟨hp,μ1,μ2,hs,e,hA,hL⟩
theorem Ow.fact{p:Prop}{A:aR}{L:List aR}{μ:Mem}(h:Ow (A::L) μ)(hp:∀μ,A μ->p):p:=by
 obtain⟨μ1,μ2,hs,e,hA,hL⟩:=h;exact hp _ hA
def Pt(b:Nat)(T:TypeId)(cs:List PV):aR:=λμ=>μ b=some (.cells T cs)
theorem Ow.get{L:List aR}{μ:Mem}(i:Nat){b:Nat}{T:TypeId}{cs:List PV}(hO:Ow L μ)(hi:L[i]?=some (Pt b T cs)):μ b=some (.cells T cs):=by
 obtain⟨μ1,μ2,hs,rfl,hA,_⟩:=Ow.at i hi hO;exact Mem.bD hA
theorem Ow.rd{L:List aR}{μ:Mem}(i:Nat){b:Nat}{T:TypeId}{cs:List PV}{o n:Nat}(hO:Ow L μ)(hi:L[i]?=some (Pt b T cs))(hl:o+n<=cs.length):ay μ b o n=some ((cs.drop o).take n):=aJ (hO.get i hi) hl
theorem Ow.put{L:List aR}{μ:Mem}{b:Nat}{T T':TypeId}{cs Oy:List PV}(hO:Ow (Pt b T cs::L) μ):Ow (Pt b T' Oy::L) (μ.set b (some (.cells T' Oy))):=by
 obtain⟨μ1,μ2,hs,rfl,hA,hL⟩:=hO;have hn:μ2 b=none:=(hs b).resolve_left (by rw[hA];simp);refine⟨μ1.set b (some (.cells T' Oy)),μ2,λx=>?_,?_,Mem.ao _ _ _,hL⟩
 ·by_cases e:x=b
  ·subst e;exact .inr hn
  ·rw[Mem.ax _ _ e];exact hs x
 ·funext x;by_cases e:x=b
  ·subst e;rw[Mem.ao,Mem.bD (Mem.ao _ _ _)]
  ·rw[Mem.ax _ _ e];unfold Mem.or;rw[Mem.ax _ _ e]
theorem Ow.st{L:List aR}{μ:Mem}(i:Nat){b:Nat}{T:TypeId}{cs:List PV}{o:Nat}{vs:List PV}{K:Mem->Prop}(hO:Ow L μ)(hi:L[i]?=some (Pt b T cs))(hl:o+vs.length<=cs.length)(hk:∀μ',Ow (L.set i (Pt b T (dx cs o vs))) μ'->K μ'):stM b o vs μ K:=
 ⟨T,cs,hO.get i hi,hl,hk _ (Ow.back i (rk hi) (Ow.at i hi hO).put)⟩
theorem Ow.new{L:List aR}{μ:Mem}{b:Nat}(T:TypeId)(cs:List PV)(hO:Ow L μ)(hb:μ b=none):Ow (Pt b T cs::L) (μ.set b (some (.cells T cs))):=by
 refine⟨M0.set b (some (.cells T cs)),μ,λx=>?_,?_,Mem.ao _ _ _,hO⟩
 ·by_cases e:x=b
  ·subst e;exact .inr hb
  ·rw[Mem.ax _ _ e];exact .inl rfl
 ·funext x;by_cases e:x=b
  ·subst e;rw[Mem.ao,Mem.bD (Mem.ao _ _ _)]
  ·rw[Mem.ax _ _ e,Mem.bH (by rw[Mem.ax _ _ e];rfl)]
theorem yj.frame{P:Program}{f:PV}{args:List PV}{μ ν:Mem}{K:Kq}(h:yj P f args μ K)(hs:μ.sep ν):yj P f args (μ.or ν) λv μ'=>∃μ1,μ1.sep ν/\μ'=μ1.or ν/\K v μ1:=λZ u fv vs hg hw hfv ha=>by
 have hμ:∀b o,μ b=some o->(o.rw=true->u.fW b)/\ze Z u b o:=λb o e=>hg.mem b o (Mem.bD e);have hν:∀b o,ν b=some o->μ b=none/\(o.rw=true->u.fW b)/\ze Z u b o:=λb o e=>by
  have hn:μ b=none:=(hs b).resolve_right (by rw[e];simp);exact⟨hn,hg.mem b o (by rw[Mem.bH hn];exact e)⟩
 have Oe:Good Z ⟨u.toWorld,λb=>∃o,μ b=some o/\o.rw=true⟩ μ:=⟨hg.Gq,λb o e=>⟨λhr=>⟨o,e,hr⟩,(hμ b o e).2⟩⟩;obtain⟨F,hF,dA⟩:=jx.1 (h Z ⟨u.toWorld,λb=>∃o,μ b=some o/\o.rw=true⟩ fv vs Oe (λb ⟨o,ho,_⟩=>Oe.Pd (by rw[ho];simp)) hfv ha);refine jx.2 ⟨F,λb hb=>?_,dA.mono λv lo w' hm Zd _ hp=>?_⟩
 ·obtain⟨o,ho,hr⟩:=hF b hb;exact(hμ b o ho).1 hr
 ·obtain⟨Z',μ1,p,e,g',hr,hK⟩:=hp;have hnb:∀b o,ν b=some o->w'.heap[b]?=u.heap[b]?/\Z' b=Z b/\μ1 b=none:=λb o hb=>by
   obtain⟨h1,_,h2⟩:=hν b o hb;have bI:=h2.lt;refine⟨hm.cw b bI λhf=>(by obtain⟨o',Rl,_⟩:=hF b hf;rw[h1]at Rl;cases Rl),?_,?_⟩
   ·cases hz:Z b with
    |some C=>exact e.zs b C hz h1
    |none=>
     cases NU:Z' b with
     |none=>rfl
     |some C=>
      rcases e.zn b (by rw[NU];simp)with h3|h3|h3
      ·exact absurd hz h3
      ·exact absurd h1 h3
      ·have:u.heap.size<=b:=h3;omega
   ·cases hx:μ1 b with
    |none=>rfl
    |some o'=>
     rcases e.mn b (by rw[hx];simp)with h3|h3
     ·exact absurd h1 h3
     ·have:u.heap.size<=b:=h3;omega
  refine⟨Z',μ1.or ν,p,⟨e.le,λb C hb hn=>?_,λb hb=>?_,λb hb=>?_,e.lt⟩,⟨g'.Gq,λb o ho=>?_⟩,hr,μ1,λb=>?_,rfl,hK⟩
  ·refine e.zs b C hb ?_;cases hx:μ b with
   |none=>rfl
   |some o=>rw[Mem.bD hx]at hn;cases hn
  ·rcases e.zn b hb with h3|h3|h3
   ·exact .inl h3
   ·refine .inr (.inl ?_);cases hx:μ b with
    |none=>exact absurd hx h3
    |some o=>rw[Mem.bD hx];simp
   ·exact .inr (.inr h3)
  ·rcases Mem.WE hb with h3|h3
   ·rcases e.mn b h3 with h4|h4
    ·left;cases hx:μ b with
     |none=>exact absurd hx h4
     |some o=>rw[Mem.bD hx];simp
    ·exact .inr h4
   ·cases hx:ν b with
    |none=>exact absurd hx h3
    |some o=>exact .inl (by rw[Mem.bH (hν b o hx).1,hx];simp)
  ·cases hx:μ1 b with
   |some o'=>
    rw[Mem.bD hx]at ho;cases ho;obtain⟨p1,p2⟩:=g'.mem b _ hx;refine⟨λJb=>?_,p2⟩;rcases p1 Jb with⟨o2,hy,DL⟩|p1
    ·exact .inl ((hμ b o2 hy).1 DL)
    ·exact .inr p1
   |none=>
    rw[Mem.bH hx]at ho;obtain⟨h1,h2,h3⟩:=hν b o ho;obtain⟨h4,h5,h6⟩:=hnb b o ho;exact⟨λJb=>.inl (h2 Jb),h3.go e.le h5 h4⟩
  ·cases hx:ν b with
   |none=>exact .inr rfl
   |some o=>exact .inl (hnb b o hx).2.2
theorem bJ.frame{P:Program}{f:PV}{args:List PV}{μ ν:Mem}{K:Kq}(h:bJ P f args μ K)(hs:μ.sep ν):bJ P f args (μ.or ν) λv μ'=>∃μ1,μ1.sep ν/\μ'=μ1.or ν/\K v μ1:=by
 unfold bJ at h |-;split at h
 ·exact h.frame hs
 ·exact yj.frame h hs
theorem Ow.yQ{P:Program}{f:PV}{args:List PV}{A:aR}{B:PV->aR}{L:List aR}{μ:Mem}{K:Kq}(hO:Ow (A::L) μ)(h:∀μ1,A μ1->bJ P f args μ1 B)(hk:∀p μ',Ow (B p::L) μ'->K p μ'):bJ P f args μ K:=by
 obtain⟨μ1,μ2,hs,rfl,hA,hL⟩:=hO;refine(bJ.frame (h μ1 hA) hs).mono λv μ' ⟨μ1',Pg,e,hB⟩=>hk v μ' ?_;subst e;exact⟨μ1',μ2,Pg,rfl,hB,hL⟩
theorem Ow.mv{A:aR}{L:List aR}{μ μ':Mem}{F F':List Nat}{B:aR}(hO:∃μ1 μ2,Mem.sep μ1 μ2/\μ=μ1.or μ2/\(∀x∈F,μ1 x≠none)/\Ow L μ2)(hm:Mv μ μ' F F')(hB:∀ν,(∀x∈F',ν x=μ' x)->B ν):Ow (B::L) μ':=by
 obtain⟨μ1,μ2,hs,rfl,hF,hL⟩:=hO;have h2:∀x o,μ2 x=some o->μ' x=some o/\x∉F':=λx o hx=>by
  have h1:μ1 x=none:=(hs x).resolve_right (by rw[hx];simp);have yC:(μ1.or μ2) x=some o:=by rw[Mem.bH h1];exact hx
  have hn:x∉F:=λhf=>hF x hf h1;refine⟨by rw[hm.cw x (by rw[yC];simp) hn];exact yC,λhf=>?_⟩;rcases hm.grow x hf with h|h
  ·exact hn h
  ·rw[yC]at h;cases h
 refine⟨λx=>match μ2 x with|some _=>none|none=>μ' x,μ2,λx=>?_,?_,hB _ λx hx=>?_,hL⟩
 ·cases hx:μ2 x with
  |none=>exact .inr rfl
  |some o=>exact .inl (by simp[hx])
 ·funext x;cases hx:μ2 x with
  |none=>
   unfold Mem.or;simp only[hx];cases μ' x<;>rfl
  |some o=>
   rw[Mem.bH (by simp[hx]),hx];exact(h2 x o hx).1
 ·cases Mg:μ2 x with
  |none=>simp[Mg]
  |some o=>exact absurd hx (h2 x o Mg).2
theorem aa.q{P:Program}{g:FuncId}{args:List PV}{μ:Mem}{K K2:Kq}(h:aa P g args M0 K)(hk:∀p μ',μ.sep μ'->K p μ'->K2 p μ'):dM P g args μ K2:=λZ u vs hg hw ha=>by
 obtain⟨hc,dA⟩:=h Z ⟨u.toWorld,λ_=>False⟩ vs ⟨hg.Gq,λb o e=>by cases e⟩ (λ_ h=>h.elim) ha;refine⟨hc,dA.Dy λv lo w' _ _ hp=>?_⟩;obtain⟨Z',μ',p,e,g',hr,hK⟩:=hp;refine⟨Z',μ',p,e,g',hr,hk p μ' (λb=>?_) hK⟩;cases hx:μ b with
 |none=>exact .inl rfl
 |some o=>
  right;cases hy:μ' b with
  |none=>rfl
  |some o'=>
   have bI:=hg.Pd (b:=b) (by rw[hx];simp);rcases e.mn b (by rw[hy];simp)with h1|h1
   ·exact absurd rfl h1
   ·have:u.heap.size<=b:=h1;omega
theorem Ow.side{L M:List aR}{μ ν:Mem}(h:Ow L μ)(hs:μ.sep ν)(k:Ow M ν):Ow (M++L) (μ.or ν):=Ow.nest ⟨ν,μ,hs.symm,Mem.or_comm hs,k,h⟩
def e_(fl:Fl)(n size:Nat):aR:=lV fl n size
theorem Ow.nil{L:List aR}{μ:Mem}(hO:Ow L μ){n size:Nat}{fl:Fl}(h:fl=.nil\/fl=.nr):Ow (e_ fl n size::L) μ:=
 ⟨M0,μ,Mem.sT μ,(Mem.Eh μ).symm,by rcases h with rfl|rfl<;>exact trivial,hO⟩
theorem Ow.app{L:List aR}{μ:Mem}{size bytes:Nat}{fl:Fl}{n:Nat}{rows new:Lq}{K:Fl->Mem->Prop}(hO:Ow (e_ fl n size::L) μ)(hn:rows.length=n)(hb:(n+new.length)*bytes<=140737488355328)(pJ:n+new.length<4611686018427387904)
  (hk:∀jZ μ',Ow (e_ jZ (n+new.length) size::L) μ'->K jZ μ'):aT false size bytes fl rows new μ K:=by
 subst hn;obtain⟨μ1,μ2,hs,rfl,hT,hL⟩:=hO;have HY:lV fl rows.length size (μ1.or μ2):=by
  cases fl with
  |nh b c=>exact Mem.bD hT
  |sh=>exact hT
  |nr=>trivial
  |nil=>trivial
 refine aT.go HY hb pJ λjZ μ' h1 h2=>hk jZ μ' ?_;have h3:∀x o,μ2 x=some o->μ' x=some o/\¬jZ.at x:=λx o hx=>by
  have Fe:μ1 x=none:=(hs x).resolve_right (by rw[hx];simp);refine h2 x o (by rw[Mem.bH Fe];exact hx) λnE=>?_;cases fl with
  |nh b c=>
   have:x=b:=nE;subst this;have:μ1 x=_:=hT;rw[this]at Fe;cases Fe
  |sh=>exact nE
  |nr=>exact nE
  |nil=>exact nE
 refine⟨λx=>match μ2 x with|some _=>none|none=>μ' x,μ2,λx=>?_,?_,?_,hL⟩
 ·cases hx:μ2 x with
  |none=>exact .inr rfl
  |some o=>exact .inl (by simp[hx])
 ·funext x;cases hx:μ2 x with
  |none=>
   unfold Mem.or;simp only[hx];cases μ' x<;>rfl
  |some o=>rw[Mem.bH (by simp[hx]),hx];exact(h3 x o hx).1
 ·show lV _ _ _ _;cases jZ with
  |nh b c=>
   have jY:μ' b=_:=h1;cases hx:μ2 b with
   |none=>simp only[lV,hx];exact jY
   |some o=>exact absurd rfl (h3 b o hx).2
  |sh=>exact h1
  |nr=>trivial
  |nil=>trivial
def cA(e:TypeId)(sz:Nat)(p:PV)(rows:Lq):aR:=λμ=>∃F,vR e sz μ p rows F
theorem cA.nil(e:TypeId)(sz:Nat){L:List aR}{μ:Mem}(hO:Ow L μ):Ow (cA e sz (.raw (.slice none 0 0)) []::L) μ:=⟨M0,μ,Mem.sT μ,(Mem.Eh μ).symm,⟨[],.inl ⟨rfl,rfl,rfl⟩⟩,hO⟩
theorem cA.split{e:TypeId}{sz:Nat}{p:PV}{rows:Lq}{L:List aR}{μ:Mem}(hO:Ow (cA e sz p rows::L) μ):∃F,vR e sz μ p rows F/\∃μ1 μ2,Mem.sep μ1 μ2/\μ=μ1.or μ2/\(∀x∈F,μ1 x≠none)/\Ow L μ2:=by
 obtain⟨μ1,μ2,hs,rfl,⟨F,h⟩,hL⟩:=hO;refine⟨F,h.same λx hx=>?_,μ1,μ2,hs,rfl,h.at_,hL⟩;cases hy:μ1 x with
 |none=>exact absurd hy (h.at_ x hx)
 |some o=>rw[Mem.bD hy]
theorem cA.app{e:TypeId}{sz:Nat}{p:PV}{rows:Lq}{L:List aR}{μ:Mem}(hO:Ow (cA e sz p rows::L) μ)(hr:∀r∈rows,r.length=sz):∃a c,p=.raw (.slice a rows.length c)/\
  ∀(r:List PV) (bytes:Nat) (K:Option Addr->Nat->Nat->Mem->Prop),r.length=sz->aU r=true->(rows.length+1)*bytes<=140737488355328->rows.length+1<4611686018427387904->
   (∀b' c' μ2,Ow (cA e sz (.raw (.slice (some ⟨b',0,none⟩) (rows.length+1) c')) (rows++[r])::L) μ2->K (some ⟨b',0,none⟩) (rows.length+1) c' μ2)->
   fA sz bytes e a rows.length c (.list sz .nr [r]) μ K:=by
 obtain⟨F,h,DJ⟩:=cA.split hO;obtain⟨a,c,rfl,kg⟩:=h.app hr;refine⟨a,c,rfl,λr bytes K hl hY hb pJ hK=>kg r bytes K hl hY hb pJ λb' c' rest μ2 jY ja su hm=>hK b' c' μ2 ?_⟩;refine Ow.mv (A:=λ_=>True) DJ hm λν hν=>⟨[b'],.inr ⟨b',c',rest,by simp,rfl,?_,by simpa using ja,by simpa using su⟩⟩;rw[hν b' (by simp)];exact jY
def eC(A:aR):Prop:=∀μ μ':Mem,(∀b o,μ b=some o->μ' b=some o)->A μ->A μ'
theorem eC.own(L:List aR):eC (Ow L):=λ_ _ h hO=>hO.mono h
theorem eC.ex{α:Type}{A:α->aR}(h:∀x,eC (A x)):eC λμ=>∃x,A x μ:=λμ μ' hs ⟨x,hx⟩=>⟨x,h x μ μ' hs hx⟩
theorem eC.and{p:Prop}{A:aR}(h:eC A):eC λμ=>p/\A μ:=λμ μ' hs ⟨hp,hx⟩=>⟨hp,h μ μ' hs hx⟩
theorem eC.one{A:aR}(h:eC A){μ:Mem}(hO:Ow [A] μ):A μ:=by
 obtain⟨μ1,μ2,hs,rfl,hA,_⟩:=hO;exact h μ1 _ (λb o hb=>Mem.bD hb) hA
theorem Ow.one{A:aR}{μ:Mem}(h:A μ):Ow [A] μ:=⟨μ,M0,(Mem.sT μ).symm,(Mem.sg μ).symm,h,trivial⟩
theorem Ow.Uy{L:List aR}{μ:Mem}(h:Ow [Ow L] μ):Ow L μ:=(eC.own L).one h
def Rc(l:Nat)(o:Ob):aR:=λμ=>μ l=some o
def gG(P:Program)(f:PV)(items:Lq)(A A':aR):Prop:=
 (∃g a b,f=.fn (.func g) a b)/\∀(fy:Fn) (ya yb:List PV) (I:Nat->aR) (S:aR) (C:aR) (μ:Mem),Bu fy True->Ow [A,C] μ->(∀μ',Ow [A',C] μ'->Ow [I 0] μ')->
  (∀(k:Nat) (h:k<items.length) (μ:Mem),I k μ->bJ P (.fn fy ya yb) items[k] μ λv μ'=>(v=pB true/\Ow [I (k+1)] μ')\/(v=pB false/\Ow [S] μ'))->
  bJ P f [.fn fy ya yb] μ λ_ μ'=>Ow [I items.length] μ'\/Ow [S] μ'
theorem gG.mk{P:Program}{g:FuncId}{a b:List PV}{items:Lq}{A A':aR}
  (h:∀(fy:Fn) (ya yb:List PV) (I:Nat->aR) (S:aR) (C:aR) (μ:Mem),Bu fy True->Ow [A,C] μ->(∀μ',Ow [A',C] μ'->Ow [I 0] μ')->
   (∀(k:Nat) (h:k<items.length) (μ:Mem),I k μ->bJ P (.fn fy ya yb) items[k] μ λv μ'=>(v=pB true/\Ow [I (k+1)] μ')\/(v=pB false/\Ow [S] μ'))->
   aa P g (a++[.fn fy ya yb]++b) μ λ_ μ'=>Ow [I items.length] μ'\/Ow [S] μ'):gG P (.fn (.func g) a b) items A A':=
 ⟨⟨g,a,b,rfl⟩,λfy ya yb I S C μ hy h0 h1 cO=>h fy ya yb I S C μ hy h0 h1 cO⟩
theorem gG.ofP{P:Program}{f:PV}{items:Lq}(h:Tp P f items):gG P f items (λ_=>True) (λ_=>True):=by
 refine⟨h.1,λfy ya yb I S C μ hy hO h0 cO=>?_⟩;have hl:(items.map vz).length=items.length:=by simp
 have:=h.2 fy ya yb (λk=>Ow [I k]) (Ow [S]) μ hy (λμ' e=>by subst e;exact h0 _ hO) (λk hk vs μ1 μ2 hI Oc=>?_)
 ·rw[hl]at this;exact this
 ·have bZ:k<items.length:=by simpa using hk
  simp only[List.getElem_map,vz]at Oc;obtain⟨rfl,rfl⟩:=Oc;refine Ow.yQ hI (λν hν=>cO k bZ ν hν) λp μ' hO=>?_;obtain⟨ν1,ν2,hs,rfl,(⟨rfl,h1⟩|⟨rfl,h1⟩),_⟩:=hO
  ·exact .inl ⟨rfl,h1.mono λb o hb=>Mem.bD hb⟩
  ·exact .inr ⟨rfl,h1.mono λb o hb=>Mem.bD hb⟩
theorem Ow.sR{p q:Prop}{A B:aR}{L:List aR}{μ:Mem}(h:Ow ((λμ=>(p/\Ow [A] μ)\/(q/\Ow [B] μ))::L) μ):(p/\Ow (A::L) μ)\/(q/\Ow (B::L) μ):=by
 obtain⟨μ1,μ2,hs,rfl,(⟨hp,h1⟩|⟨hp,h1⟩),hL⟩:=h
 ·exact .inl ⟨hp,Ow.nest (L1:=[A]) ⟨μ1,μ2,hs,rfl,h1,hL⟩⟩
 ·exact .inr ⟨hp,Ow.nest (L1:=[B]) ⟨μ1,μ2,hs,rfl,h1,hL⟩⟩
theorem bu.own{P:Program}{f:PV}{items:Lq}{A A':aR}{L:List aR}{body:List PV->(Option Code->Mem->Prop)->Mem->Prop}{K:Option Code->Mem->Prop}{μ:Mem}(hs:gG P f items A A')(hO:Ow (A::L) μ)
  (I:Nat->aR) (S:Code->aR) (hI:∀k,eC (I k)) (hS:∀c,eC (S c)) (h0:∀μ',Ow (A'::L) μ'->I 0 μ')
  (cO:∀(k:Nat) (h:k<items.length) (μ:Mem) (R:Option Code->Mem->Prop),I k μ->(∀μ',I (k+1) μ'->R none μ')->(∀c μ',S c μ'->R (some c) μ')->body items[k] R μ)
  (RA:∀μ,I items.length μ->K none μ) (Rb:∀c μ,S c μ->K (some c) μ):bu P f body K μ:=by
 obtain⟨hf,hs⟩:=hs;refine⟨hf,λl rec hl hy=>?_⟩;have cut:∀{ν:Mem} {o:Ob} {M:List aR},Ow (Rc l o::M) ν->ν l=some o/\Ow M (ν.set l none):=λ{ν o M} h=>by
  obtain⟨ν1,ν2,tx,rfl,hR,hM⟩:=h;refine⟨Mem.bD hR,hM.mono λb o' hb=>?_⟩;have Je:ν1 b=none:=(tx b).resolve_right (by rw[hb];simp);have aQ:b≠l:=by
   rintro rfl;have:ν1 b=_:=hR;rw[this]at Je;cases Je
  rw[Mem.ax _ _ aQ,Mem.bH Je];exact hb
 have glue:∀{ν:Mem} {o:Ob},ν l=some o->ν=(ν.set l none).set l (some o):=λ{ν o} h=>by
  rw[Mem.set_set,Mem.An h]
 have lift:∀{ν μ3:Mem} {o:Ob} {ν1 ν2:Mem},μ3 l=none->ν1=μ3.set l (some o)->Mem.sep ν1 ν2->ν=ν1.or ν2->ν l=some o/\∀b o',μ3 b=some o'->(ν.set l none) b=some o':=λ{ν μ3 o ν1 ν2} h1 h2 tx e=>by
  subst h2 e;refine⟨Mem.bD (Mem.ao _ _ _),λb o' hb=>?_⟩;have aQ:b≠l:=by rintro rfl;rw[h1]at hb;cases hb
  rw[Mem.ax _ _ aQ];exact Mem.bD (by rw[Mem.ax _ _ aQ];exact hb)
 refine(hs (.yield l) [] [] (λk ν=>∃μ3,μ3 l=none/\ν=μ3.set l (some (rec none))/\I k μ3) (λν=>∃c μ3,μ3 l=none/\ν=μ3.set l (some (rec (some c)))/\S c μ3) (Ow (Rc l (rec none)::L)) _ trivial ?_ (λμ' RS=>Ow.one ?_) ?_).mono ?_
 ·have h1:Ow (Rc l (rec none)::A::L) (μ.set l (some (rec none))):=by
   refine⟨M0.set l (some (rec none)),μ,λx=>?_,?_,Mem.ao _ _ _,hO⟩
   ·by_cases e:x=l
    ·subst e;exact .inr hl
    ·rw[Mem.ax _ _ e];exact .inl rfl
   ·funext x;by_cases e:x=l
    ·subst e;rw[Mem.ao,Mem.bD (Mem.ao _ _ _)]
    ·rw[Mem.ax _ _ e,Mem.bH (by rw[Mem.ax _ _ e];rfl)]
  refine h1.swap.tail λν hν=>Ow.one hν
 ·have h1:Ow (A'::(Rc l (rec none)::L)) μ':=RS.tail λν hν=>hν.Uy;obtain⟨h2,h3⟩:=cut h1.swap;exact⟨_,Mem.ao _ _ _,glue h2,h0 _ h3⟩
 ·rintro k hk _ ⟨μ3,h1,rfl,Xp⟩;refine(hy items[k] μ3 (λp μ'=>match p with|none=>I (k+1) μ'|some c=>S c μ') h1 (cO k hk μ3 _ Xp (λμ' h=>h) (λc μ' h=>h))).mono ?_;rintro v μ2 ⟨p,μ4,rfl,h3,rfl,hR⟩;cases p with
  |none=>exact .inl ⟨rfl,Ow.one ⟨μ4,h3,rfl,hR⟩⟩
  |some c=>exact .inr ⟨rfl,Ow.one ⟨c,μ4,h3,rfl,hR⟩⟩
 ·rintro v ν (h|h)
  ·obtain⟨ν1,ν2,tx,e,⟨μ3,h1,h2,h3⟩,_⟩:=h;obtain⟨h4,h5⟩:=lift h1 h2 tx e;exact⟨none,ν.set l none,Mem.ao _ _ _,glue h4,RA _ (hI _ _ _ h5 h3)⟩
  ·obtain⟨ν1,ν2,tx,e,⟨c,μ3,h1,h2,h3⟩,_⟩:=h;obtain⟨h4,h5⟩:=lift h1 h2 tx e;exact⟨some c,ν.set l none,Mem.ao _ _ _,glue h4,Rb c _ (hS _ _ _ h5 h3)⟩
def Reads(P:Program)(w:World)(n:Nat)(t:TypeId)(cs:List Value):Prop:=∃(H:Type) (enc:TypeId×Value->H) (x:DataW H×List MemPlace),DataW.trod enc P w 0 (λ_=>true) true n t cs=some x
section
variable {P:Program} {w:World} {n:Nat} {t:TypeId} {cs:List Value}
theorem Reads.int{k:IntKind}(ht:P.underlying t=some (.int k))(h:Reads P w n t cs):∃i,cs=[.int k i]/\(Lit.int k i).wf=true:=by
 obtain⟨H,enc,x,h⟩:=h;cases n with
 |zero=>simp[DataW.trod]at h
 |succ n=>
  unfold DataW.trod at h;simp only[ht]at h;split at h<;>simp_all
theorem Reads.bool(ht:P.underlying t=some .bool)(h:Reads P w n t cs):∃b,cs=[.bool b]:=by
 obtain⟨H,enc,x,h⟩:=h;cases n with
 |zero=>simp[DataW.trod]at h
 |succ n=>
  unfold DataW.trod at h;simp only[ht]at h;split at h<;>simp_all
theorem Reads.string(ht:P.underlying t=some .string)(h:Reads P w n t cs):∃s:ByteArray,cs=[.string s]/\s.size<=maxLen:=by
 obtain⟨H,enc,x,h⟩:=h;cases n with
 |zero=>simp[DataW.trod]at h
 |succ n=>
  unfold DataW.trod at h;simp only[ht]at h;split at h<;>simp_all
theorem Reads.struct{fs:Array Field}(ht:P.underlying t=some (.struct fs))(h:Reads P w n t cs):∃m,n=m+1/\cs.length=P.cellsOf t/\∀(i:Nat) (f:Field),fs[i]?=some f->Reads P w m f.type ((cs.drop f.offset).take (P.cellsOf f.type)):=by
 obtain⟨H,enc,x,h⟩:=h;obtain⟨xs,m,rfl,_,hl,hx,hf⟩:=DataW.trod_struct ht h;refine⟨m,rfl,hl,λi f hi=>?_⟩;have:=hf i f hi;have bI:i<xs.length:=by rw[hx];exact(Array.getElem?_eq_some_iff.1 hi).1
 rw[getElem?_eq_getElem bI]at this;exact⟨H,enc,_,this⟩
theorem vG{a:Addr}{sz:Nat}{cs:List Value}(h:w.cells? 0 a sz=some cs)(hz:sz≠0):a.spot=none/\rd w.heap a.block a.off sz=some cs:=by
 obtain⟨_,hl,hc⟩:=World.cells?_some h;have h0:=hc 0 (by omega);have e0:a.add 0=a:=by simp[Addr.add]
 rw[e0,getElem?_eq_getElem (by omega)]at h0;unfold World.cell? at h0;split at h0
 ·rename_i c T f hb;split at h0
  ·cases h0
  ·rename_i hs;have acM:a.spot=none:=by simpa using hs
   refine⟨acM,?_⟩;have Rx:∀i,i<sz->c[a.off+i]?=cs[i]?:=by
    intro i hi;have:=hc i hi;have e:a.add i=⟨a.block,a.off+i,none⟩:=by
     unfold Addr.add;split
     ·rename_i h;subst h;obtain⟨_,_,_⟩:=a;simp_all
     ·rfl
    rw[e]at this;simpa[World.cell?,hb]using this
   have hle:a.off+sz<=c.size:=by
    have:=Rx (sz-1) (by omega);rw[getElem?_eq_getElem (by omega)]at this;have:=(Array.getElem?_eq_some_iff.1 this).1;omega
   rw[Aw hb hle];congr 1;refine List.ext_getElem? λi=>?_;by_cases hi:i<sz
   ·rw[List.getElem?_take_of_lt hi,List.getElem?_drop,<- Rx i hi];simp
   ·rw[List.getElem?_eq_none (by simp;omega),List.getElem?_eq_none (by omega)]
 ·cases h0
theorem Nv{H:IK}{b o m k:Nat}{xs ys:List Value}(h1:rd H b o m=some xs)(h2:rd H b (o+m) k=some ys):rd H b o (m+k)=some (xs++ys):=by
 obtain⟨c,T,f,a1,a2,rfl⟩:=uU h1;obtain⟨c',T',f',b1,b2,rfl⟩:=uU h2;rw[a1]at b1;simp only[Option.some.injEq,Obj.cells.injEq]at b1;obtain⟨rfl,rfl,rfl⟩:=b1;rw[Aw a1 (by omega)];congr 1;rw[List.take_add,List.drop_drop]
theorem LI{H:IK}{b o sz:Nat}(f:Nat->List Value):∀m,m≠0->(∀i,i<m->rd H b (o+i*sz) sz=some (f i))->rd H b o (m*sz)=some ((range m).map f).flatten
 |0,h,_=>absurd rfl h
 |1,_,h=>by have:=h 0 (by omega);simpa using this
 |m+2,_,h=>by
  have ih:=LI f (m+1) (by omega) (λi hi=>h i (by omega));have:=Nv ih (h (m+1) (by omega));rw[List.range_succ,List.map_append,flatten_append,show(m+2)*sz=(m+1)*sz+sz by rw[succ_mul]];simpa using this
theorem Reads.slice{e:TypeId}(ht:P.underlying t=some (.slice e))(hz:P.cellsOf e≠0)(h:Reads P w n t cs):∃m a len cap yP,n=m+1/\cs=[.slice a len cap]/\len<=maxLen/\SlR w.heap a len cap (P.cellsOf e) yP/\(∀x∈yP,Reads P w m e x)/\(cap=0\/gZ a):=by
 obtain⟨H,enc,x,h⟩:=h;have hn:∃m,n=m+1:=by
  cases n with
  |zero=>simp[DataW.trod]at h
  |succ n=>exact⟨n,rfl⟩
 obtain⟨m0,rfl⟩:=hn;rcases DataW.trod_slice ht h with⟨rfl,_⟩|⟨a,len,cap,elems,rest,m,yB,rfl,rfl,hb,hl,hm,hlen,Pn,DJ,hns⟩
 ·exact⟨m0,none,0,0,[],rfl,rfl,Nat.zero_le _,SlR.nil _ _,by simp,.inl rfl⟩
 ·have yB:m0=m:=by omega
  subst yB;have hex:∀i,i<len->∃c',(w.cells? 0 (a.add (i*P.cellsOf e)) (P.cellsOf e))=some c'/\Reads P w m0 e c':=by
   intro i hi;have h1:=Pn i hi;rw[getElem?_eq_getElem (by omega)]at h1;obtain⟨c',h2,h3⟩:=bind_eq_some_iff.1 h1;exact⟨c',h2,H,enc,_,h3⟩
  have ahb:∃f:Nat->List Value,∀i,i<len->w.cells? 0 (a.add (i*P.cellsOf e)) (P.cellsOf e)=some (f i)/\Reads P w m0 e (f i):=by
   classical
   refine⟨λi=>if hi:i<len then Classical.choose (hex i hi)else[],λi hi=>?_⟩;simp only[dif_pos hi];exact Classical.choose_spec (hex i hi)
  obtain⟨f,hf⟩:=ahb;refine⟨m0,some a,len,cap,(range len).map f,rfl,rfl,Nat.le_trans hl hm,⟨by simp,hl,?_,λhn=>?_⟩,?_,?_⟩
  ·intro x hx;obtain⟨i,hi,rfl⟩:=mem_map.1 hx;exact(World.cells?_some (hf i (List.mem_range.1 hi)).1).2.1
  ·have h0:=vG (hf 0 (by omega)).1 hz;have e0:a.add (0*P.cellsOf e)=a:=by simp[Addr.add]
   rw[e0]at h0;obtain⟨hs,_⟩:=h0;obtain⟨b,o,s⟩:=a;simp only at hs;subst hs;refine⟨b,o,rfl,LI f len hn λi hi=>?_⟩;have:=(vG (hf i hi).1 hz).2;have e:(⟨b,o,none⟩:Addr).add (i*P.cellsOf e)=⟨b,o+i*P.cellsOf e,none⟩:=by
    unfold Addr.add;split
    ·rename_i h;simp[h]
    ·rfl
   rw[e]at this;exact this
  ·intro x hx;obtain⟨i,hi,rfl⟩:=mem_map.1 hx;exact(hf i (List.mem_range.1 hi)).2
  ·by_cases HW:cap=0
   ·exact .inl HW
   ·right;have hs:a.spot=none:=by
     by_cases Xc:len=0
     ·have h1:=(DJ rfl).2 0 (by omega);have ajs:=(DJ rfl).1;rw[getElem?_eq_getElem (by omega)]at h1;obtain⟨c',h2,_⟩:=bind_eq_some_iff.1 h1;have e0:a.add ((len+0)*P.cellsOf e)=a:=by simp[Addr.add,Xc]
      rw[e0]at h2;exact(vG h2 hz).1
     ·have h0:=vG (hf 0 (by omega)).1 hz;have e0:a.add (0*P.cellsOf e)=a:=by simp[Addr.add]
      rw[e0]at h0;exact h0.1
    intro x hx;cases hx;exact hs
theorem Hl{T:Type}{Z:Fz}{pv:T->List PV}{Q:T->Prop}:∀{yP:List (List Value)},(∀x∈yP,∃s,bq Z (pv s) x/\Q s)->∃l:List T,l.length=yP.length/\bq Z (l.map pv).flatten yP.flatten/\(∀s∈l,Q s)/\∀(i:Nat) s x,l[i]?=some s->yP[i]?=some x->bq Z (pv s) x
 |[],_=>⟨[],rfl,bq.nil Z,by simp,by simp⟩
 |x::yP,h=>by
  obtain⟨s,hr,hs⟩:=h x (by simp)
  obtain⟨l,hl,vp,hq,hi⟩:=Hl (yP:=yP) λy hy=>h y (by simp[hy]);refine⟨s::l,by simp[hl],by simpa using hr.append vp,by simpa using⟨hs,hq⟩,λi s' x' a b=>?_⟩;cases i with
  |zero=>simp only[List.getElem?_cons_zero,Option.some.injEq]at a b;subst a;subst b;exact hr
  |succ i=>simp only[List.getElem?_cons_succ]at a b;exact hi i s' x' a b
theorem Reads.Dr{T:Type}{pv:T->List PV}{Q:T->Prop}{e:TypeId}{sz:Nat}(ht:P.underlying t=some (.slice e))(hc:P.cellsOf e=sz)(hz:sz≠0)(he:∀m cs,m<n->Reads P w m e cs->∃s,bq (jT w) (pv s) cs/\Q s)(h:Reads P w n t cs):
  ∃l:List T,bq (jT w) [.list sz .sh (l.map pv)] cs/\(∀s∈l,Q s)/\l.length<=maxLen:=by
 obtain⟨m,a,len,cap,yP,rfl,rfl,h0,h2,h3,DJ⟩:=h.slice ht (by rw[hc];exact hz);rw[hc]at h2;obtain⟨l,hl,vp,hq,hi⟩:=Hl λx hx=>he m x (by omega) (h3 x hx);have rD:l.length=len:=by rw[hl,h2.len]
 refine⟨l,bq.cons rfl ?_ (bq.nil _),hq,by omega⟩;have d_:∀r∈l.map pv,r.length=sz:=by
  intro r hr;obtain⟨s,hs,rfl⟩:=mem_map.1 hr;obtain⟨i,Pm⟩:=List.mem_iff_getElem?.1 hs;have bI:i<yP.length:=by rw[<- hl];exact(List.getElem?_eq_some_iff.1 Pm).1
  have:=hi i s yP[i] Pm (getElem?_eq_getElem bI);rw[<- this.1];exact h2.each _ (getElem_mem bI)
 by_cases hn:len=0
 ·have:l=[]:=List.eq_nil_of_length_eq_zero (by omega);subst this;exact .list sz .sh _ a len cap 0 0 [] (λ_ _=>undef) (by simp[hn]) h2.cap DJ (by simp) (λh=>absurd hn h) (λi j hi=>by omega) (by simp) (by simp) trivial
 ·obtain⟨b,o,rfl,hr⟩:=h2.read hn;obtain⟨A,T',f',hA,hle,hv⟩:=uU hr;have kP:yP.flatten.length=len*sz:=by rw[Ii h2.each,h2.len]
  have:=pX (Z:=jT w) (sz:=sz) (fl:=.sh) (rows:=l.map pv) (vs:=yP.flatten) (b:=b) (o:=o) (c:=cap) (C:=A.toList) d_ vp (Wi hA) (λk hk=>by
   rw[hv]at hk |-
   rw[List.getElem?_take,if_pos (by rw[hv]at kP;omega),List.getElem?_drop]) (by simp[rD,h2.cap]) trivial
  rw[length_map,rD]at this;exact this
theorem Reads.JN{k:IntKind}(ht:P.underlying t=some (.int k))(h:Reads P w n t cs):∃i,bq (jT w) [.raw (.int k i)] cs/\(Lit.int k i).wf=true:=by
 obtain⟨i,rfl,hw⟩:=h.int ht;exact⟨i,bq.cons rfl (.raw _ rfl rfl) (bq.nil _),hw⟩
theorem Reads.pbool(ht:P.underlying t=some .bool)(h:Reads P w n t cs):∃i,bq (jT w) [pB i] cs:=by
 obtain⟨i,rfl⟩:=h.bool ht;exact⟨i,bq.cons rfl (.raw _ rfl rfl) (bq.nil _)⟩
theorem Reads.Nz(ht:P.underlying t=some .string)(h:Reads P w n t cs):∃i:ByteArray,bq (jT w) [pS i] cs/\i.size<=maxLen:=by
 obtain⟨i,rfl,hw⟩:=h.string ht;exact⟨i,bq.cons rfl (.raw _ rfl rfl) (bq.nil _),hw⟩
theorem gF{m:Nat}{fs:Array Field}(hf:∀(i:Nat) (f:Field),fs[i]?=some f->Reads P w m f.type ((cs.drop f.offset).take (P.cellsOf f.type)))(i off:Nat){ty k:Nat}(h3:P.cellsOf ty=k){f:Field}(hi:fs[i]?=some f)(h1:f.type=ty)(h2:f.offset=off):Reads P w m ty ((cs.drop off).take k):=by
 subst h1 h2 h3;exact hf i f hi
section
variable {H:Type} {enc:TypeId×Value->H} {r:Reach} {base:Nat} {v:Value} {d:DataW H} {p:List MemPlace}
theorem Reads.of(h:DataW.Trod enc P w 0 (λ_=>true) true t v d p):∃n,Reads P w n t v.cells.toList:=let ⟨n,hn⟩:=h;⟨n,H,enc,_,hn⟩
theorem Uw{k:IntKind}(ht:P.underlying t=some (.int k))(hv:Value.okWide P w r base t v)(h:DataW.Trod enc P w 0 (λ_=>true) true t v d p):∃i,bR (jT w) (.raw (.int k i)) v/\(Lit.int k i).wf=true:=by
 obtain⟨i,rfl⟩:=WideShapes.okWide_int ht hv;obtain⟨n,hn⟩:=Reads.of h;obtain⟨j,e,hw⟩:=hn.int ht;simp[Value.cells]at e;subst e;exact⟨_,.raw _ rfl rfl,hw⟩
theorem Hm{T:Type}{pv:T->List PV}{Q:T->Prop}{e:TypeId}{sz:Nat}(ht:P.underlying t=some (.slice e))(hc:P.cellsOf e=sz)(hz:sz≠0)(he:∀m cs,Reads P w m e cs->∃s,bq (jT w) (pv s) cs/\Q s)(hv:Value.okWide P w r base t v)(h:DataW.Trod enc P w 0 (λ_=>true) true t v d p):
  ∃l:List T,bR (jT w) (.list sz .sh (l.map pv)) v/\(∀s∈l,Q s)/\l.length<=maxLen:=by
 obtain⟨a,len,cap,rfl⟩:=WideShapes.okWide_slice ht hv;obtain⟨n,hn⟩:=Reads.of h;obtain⟨l,h2,h3,h4⟩:=hn.Dr ht hc hz (λm cs _ hr=>he m cs hr);obtain⟨v,vs,e,_,hr,_⟩:=h2.inv;simp only[Value.cells,List.cons.injEq]at e;refine⟨l,?_,h3,h4⟩;rw[e.1];exact hr
end
end
theorem eG(a:ByteArray):aF a a=true:=bF.2 rfl
theorem pO{a b:ByteArray}:aF a b=false↔a≠b:=by
 cases h:aF a b with
 |true=>simp[bF.1 h]
 |false=>
  simp only[true_iff];intro e;rw[bF.2 e]at h;cases h
structure Sym where
 k:Int
 t:ByteArray
 n:Int
@[reducible] def Sym.pv(s:Sym):List PV:=[pI s.k,pS s.t,pI s.n]
structure Bind where
 v:ByteArray
 s:Sym
@[reducible] def Bind.pv(b:Bind):List PV:=[pS b.v,pI b.s.k,pS b.s.t,pI b.s.n]
structure Test where
 rel:Int
 var:ByteArray
 sym:Sym
 list:List Sym
@[reducible] def Test.pv(t:Test):List PV:=[pI t.rel,pS t.var,pI t.sym.k,pS t.sym.t,pI t.sym.n,.list 3 .sh (t.list.map Sym.pv)]
structure aj where
 id:Sym
 attr:Sym
 value:Sym
 acc:Bool
 goal:Bool
 tag:Int
@[reducible] def aj.pv(e:aj):List PV:=[pI e.id.k,pS e.id.t,pI e.id.n,pI e.attr.k,pS e.attr.t,pI e.attr.n,pI e.value.k,pS e.value.t,pI e.value.n,pB e.acc,pB e.goal,pI e.tag]
inductive ae where
 |mk (kind:Int) (goal:Bool) (id:ByteArray) (attr value:List Test) (acc:Bool) (conds:List ae)
namespace ae
def kind:ae->Int| .mk k _ _ _ _ _ _=>k
def goal:ae->Bool| .mk _ g _ _ _ _ _=>g
def id:ae->ByteArray| .mk _ _ i _ _ _ _=>i
def attr:ae->List Test| .mk _ _ _ a _ _ _=>a
def value:ae->List Test| .mk _ _ _ _ v _ _=>v
def acc:ae->Bool| .mk _ _ _ _ _ a _=>a
def conds:ae->List ae| .mk _ _ _ _ _ _ c=>c
end ae
mutual
def ae.pv:ae->List PV
 | .mk k g i a v ac cs=>[pI k,pB g,pS i,.list 6 .sh (a.map Test.pv),.list 6 .sh (v.map Test.pv),pB ac,.list 7 .sh (ae.pvs cs)]
def ae.pvs:List ae->Lq
 |[]=>[]
 |c::cs=>ae.pv c::ae.pvs cs
end
theorem ae.Ql:∀cs:List ae,ae.pvs cs=cs.map ae.pv
 |[]=>rfl
 |c::cs=>by simp[ae.pvs,ae.Ql cs]
theorem ae.cH(c:ae):c.pv=[pI c.kind,pB c.goal,pS c.id,.list 6 .sh (c.attr.map Test.pv),.list 6 .sh (c.value.map Test.pv),pB c.acc,.list 7 .sh (c.conds.map ae.pv)]:=by
 cases c;simp only[ae.pv,ae.Ql];rfl
theorem ae.ind{Q:ae->Prop}(h:∀c:ae,(∀d∈c.conds,Q d)->Q c):∀c,Q c:=by
 intro c
 exact ae.rec (motive_1:=Q) (motive_2:=λl=>∀d∈l,Q d) (λk g i a v ac cs ih=>h _ ih) (λd hd=>by cases hd) (λc cs h1 h2 d hd=>by
  rcases mem_cons.1 hd with rfl|hd
  ·exact h1
  ·exact h2 d hd) c
structure Atom where
 var:ByteArray
 sym:Sym
@[reducible] def Atom.pv(a:Atom):List PV:=[pS a.var,pI a.sym.k,pS a.sym.t,pI a.sym.n]
structure Term where
 op:Int
 a:Atom
 b:Atom
@[reducible] def Term.pv(t:Term):List PV:=[pI t.op,pS t.a.var,pI t.a.sym.k,pS t.a.sym.t,pI t.a.sym.n,pS t.b.var,pI t.b.sym.k,pS t.b.sym.t,pI t.b.sym.n]
structure cT where
 id:ByteArray
 attr:Atom
 value:Term
 p_:Int
 other:Atom
@[reducible] def cT.pv(a:cT):List PV:=[pS a.id,pS a.attr.var,pI a.attr.sym.k,pS a.attr.sym.t,pI a.attr.sym.n,pI a.value.op,pS a.value.a.var,pI a.value.a.sym.k,pS a.value.a.sym.t,pI a.value.a.sym.n,pS a.value.b.var,pI a.value.b.sym.k,pS a.value.b.sym.t,pI a.value.b.sym.n,pI a.p_,pS a.other.var,pI a.other.sym.k,pS a.other.sym.t,pI a.other.sym.n]
structure Prod where
 name:ByteArray
 conds:List ae
 bk:List cT
@[reducible] def Prod.pv(p:Prod):List PV:=[pS p.name,.list 7 .sh (p.conds.map ae.pv),.list 19 .sh (p.bk.map cT.pv)]
@[reducible] def eU(x y:Sym):Bool:=(x.k == y.k)&&(aF x.t y.t&&((x.n == y.n)&&true))
theorem cz{x y:Sym}:eU x y=true↔x=y:=by
 obtain⟨a,b,c⟩:=x;obtain⟨a',b',c'⟩:=y;simp[eU,bF]
theorem zZ(x:Sym):eU x x=true:=cz.2 rfl
theorem BN{α:Type}{p:α->Bool}{l:List α}{k:Nat}(hk:k<l.length)(h:(l.take k).any p=false):(l.take (k+1)).any p=p l[k]:=by
 rw[take_add_one,List.any_append,h,getElem?_eq_getElem hk];simp
theorem K_{α:Type}{p:α->Bool}{l:List α}{k:Nat}(hk:k<l.length)(h:p l[k]=true):l.any p=true:=List.any_eq_true.2 ⟨_,getElem_mem hk,h⟩
theorem FU{α:Type}{p:α->Bool}{l:List α}{k:Nat}(hk:k<l.length)(h:(l.take k).all p=true):(l.take (k+1)).all p=p l[k]:=by
 rw[take_add_one,List.all_append,h,getElem?_eq_getElem hk];simp
theorem FV{α:Type}{p:α->Bool}{l:List α}{k:Nat}(hk:k<l.length)(h:p l[k]=false):l.all p=false:=by
 cases ha:l.all p with
 |false=>rfl
 |true=>rw[List.all_eq_true.1 ha _ (getElem_mem hk)]at h;cases h
theorem eP{α β:Type}{f:α->β}{l:List α}{k:Nat}(hk:k<l.length):(l.take (k+1)).map f=(l.take k).map f++[f l[k]]:=by
 rw[take_add_one,getElem?_eq_getElem hk,List.map_append];rfl
theorem TU{α:Type}{l:List α}{k:Nat}(h:¬k<l.length):l.take k=l:=List.take_of_length_le (by omega)
theorem ak.each{γ:Type}{body:(Int->γ->Prop)->Int->γ->Prop}{u:γ}{n:Nat}(hn:n<9223372036854775808)(I:Nat->γ->Prop)(h0:I 0 u)
  (fE:∀(k:Nat) (u:γ) (next:Int->γ->Prop),k<n->I k u->(∀u',I (k+1) u'->next (wrap .i64 ((k:Int)+1)) u')->body next (k:Int) u) (eZ:∀(u:γ) (next:Int->γ->Prop),I n u->body next (n:Int) u):ak body 0 u:=by
 refine ak.up n hn I h0 λk u next hk hI av=>?_
 by_cases bI:k<n
 ·exact fE k u next bI hI (av bI)
 ·have:k=n:=by omega
  subst this;exact eZ u next hI
theorem ak.dd{β γ:Type}{body:(β×Int->γ->Prop)->β×Int->γ->Prop}{x:β}{u:γ}{n:Nat}(hn:n<9223372036854775808)(I:Nat->β->γ->Prop)(h0:I 0 x u)
  (fE:∀(k:Nat) (x:β) (u:γ) (next:β×Int->γ->Prop),k<n->I k x u->(∀x' u',I (k+1) x' u'->next (x',wrap .i64 ((k:Int)+1)) u')->body next (x,(k:Int)) u) (eZ:∀(x:β) (u:γ) (next:β×Int->γ->Prop),I n x u->body next (x,(n:Int)) u):ak body (x,0) u:=by
 refine ak.up2 n hn I h0 λk x u next hk hI av=>?_
 by_cases bI:k<n
 ·exact fE k x u next bI hI (av bI)
 ·have:k=n:=by omega
  subst this;exact eZ x u next hI
theorem ak.from{γ:Type}{body:(Int->γ->Prop)->Int->γ->Prop}{u:γ}{n s:Nat}(hs:s<=n)(hn:n<9223372036854775808)(I:Nat->γ->Prop)(h0:I s u)
  (fE:∀(k:Nat) (u:γ) (next:Int->γ->Prop),s<=k->k<n->I k u->(∀u',I (k+1) u'->next (wrap .i64 ((k:Int)+1)) u')->body next (k:Int) u) (eZ:∀(u:γ) (next:Int->γ->Prop),I n u->body next (n:Int) u):ak body (s:Int) u:=by
 refine⟨λm x u=>∃k:Nat,x=(k:Int)/\s<=k/\k<=n/\I k u/\m=n-k,⟨n-s,s,rfl,le_refl _,hs,h0,rfl⟩,?_⟩;rintro _ _ u ⟨k,rfl,hsk,hk,hI,rfl⟩;by_cases bI:k<n
 ·refine fE k u _ hsk bI hI λu' dG=>?_;rw[aD (by omega) (by omega)];exact⟨n-(k+1),by omega,k+1,by omega,by omega,by omega,dG,rfl⟩
 ·have:k=n:=by omega
  subst this;exact eZ u _ hI
@[reducible] def bL(t:ByteArray):List UInt8:=t.data.toList
theorem BL(t:ByteArray):(bL t).length=t.size:=rfl
theorem FR{t:ByteArray}{k:Nat}(hk:k<t.size):t[Int.toNat (k:Int)]?=some (bL t)[k]:=by
 rw[Int.toNat_natCast,getElem?_pos t k hk];rfl
end Go.aP
namespace Go.Proofs.YtbodiiomcfgokaaGreat
open Go.aP Go.RowKit
mutual
def aO:ae->Nat
 | .mk _ _ _ _ _ _ cs=>1+ah cs
def ah:List ae->Nat
 |[]=>0
 |c::cs=>aO c+ah cs
end
theorem bN(c:ae):aO c=1+ah c.conds:=by cases c;rfl
theorem kJ(a b:List ae):ah (a++b)=ah a+ah b:=by
 induction a with
 |nil=>simp[ah]
 |cons c a ih=>simp only[cons_append,ah,ih];omega
theorem eH{l:List ae}{k:Nat}(hk:k<l.length):ah (l.take (k+1))=ah (l.take k)+(1+ah l[k].conds):=by
 rw[take_add_one,kJ,getElem?_eq_getElem hk];simp[ah,bN]
theorem jH(l:List ae)(k:Nat):ah l=ah (l.take k)+ah (l.drop k):=by rw[<- kJ,take_append_drop]
theorem dz{l:List ae}{c:ae}(h:c∈l):1+ah c.conds<=ah l:=by
 induction l with
 |nil=>cases h
 |cons d l ih=>
  simp only[ah];rcases mem_cons.1 h with rfl|h
  ·rw[bN];omega
  ·have:=ih h;omega
theorem cK(l:List ae):l.length<=ah l:=by
 induction l with
 |nil=>simp
 |cons c l ih=>simp only[length_cons,ah,bN];omega
mutual
def gD:ae->Nat->Nat->List (Nat×Nat×ae)
 | .mk k g i a v ac cs,at_,deep=>(at_,deep,.mk k g i a v ac cs)::cX cs (at_+1) (deep+1)
def cX:List ae->Nat->Nat->List (Nat×Nat×ae)
 |[],_,_=>[]
 |c::cs,at_,deep=>gD c at_ deep++cX cs (at_+aO c) deep
end
theorem LN(c:ae)(at_ deep:Nat):gD c at_ deep=(at_,deep,c)::cX c.conds (at_+1) (deep+1):=by cases c;rfl
theorem qa:∀(a b:List ae) (at_ deep:Nat),cX (a++b) at_ deep=cX a at_ deep++cX b (at_+ah a) deep
 |[],b,at_,deep=>by simp[cX,ah]
 |c::a,b,at_,deep=>by
  simp only[cons_append,cX,qa a b,ah,append_assoc]
  congr 3;omega
mutual
theorem nu:∀(c:ae) (at_ deep:Nat),(gD c at_ deep).length=aO c
 | .mk k g i a v ac cs,at_,deep=>by simp only[gD,length_cons,aO,ns cs];omega
theorem ns:∀(l:List ae) (at_ deep:Nat),(cX l at_ deep).length=ah l
 |[],_,_=>rfl
 |c::cs,at_,deep=>by simp only[cX,List.length_append,nu c,ns cs,ah]
end
theorem nb{b:Bool}(h:(!b)=true):b=false:=by simpa using h
theorem nt{b:Bool}(h:(!b)=false):b=true:=by simpa using h
theorem Dq{l:List ae}{k:Nat}(hk:k<l.length)(a d:Nat):cX (l.take (k+1)) a d=cX (l.take k) a d++((a+ah (l.take k),d,l[k])::cX l[k].conds (a+ah (l.take k)+1) (d+1)):=by
 rw[take_add_one,qa,getElem?_eq_getElem hk];simp[cX,LN]
theorem LM{l:List ae}{k:Nat}(hk:k<l.length)(a d:Nat):cX l a d=cX (l.take k) a d++((a+ah (l.take k),d,l[k])::cX l[k].conds (a+ah (l.take k)+1) (d+1))++cX (l.drop (k+1)) (a+ah (l.take (k+1))) d:=by
 rw[<- Dq hk,<- qa,take_append_drop]
mutual
theorem JM:∀(c:ae) (a d k:Nat) (x:Nat×Nat×ae),(gD c a d)[k]?=some x->x.1=a+k
 | .mk kk g i at' v ac cs,a,d,k,x,h=>by
   simp only[gD]at h
   cases k with
   |zero=>simp only[List.getElem?_cons_zero,Option.some.injEq]at h;subst h;rfl
   |succ k=>
    simp only[List.getElem?_cons_succ]at h
    have:=sY cs (a+1) (d+1) k x h;omega
theorem sY:∀(l:List ae) (a d k:Nat) (x:Nat×Nat×ae),(cX l a d)[k]?=some x->x.1=a+k
 |[],a,d,k,x,h=>by simp[cX]at h
 |c::cs,a,d,k,x,h=>by
  simp only[cX]at h
  by_cases hk:k<(gD c a d).length
  ·rw[List.getElem?_append_left hk]at h;exact JM c a d k x h
  ·rw[List.getElem?_append_right (by omega)]at h
   have:=sY cs (a+aO c) d _ x h
   rw[nu]at this hk;omega
end
def oq(t:Test):Prop:=t.list.length<=40/\t.var.size<=100/\t.sym.t.size<=100
mutual
def cW:ae->Prop
 | .mk _ _ i a v _ cs=>i.size<=100/\a.length<=40/\v.length<=40/\(∀t∈a,oq t)/\(∀t∈v,oq t)/\bX cs
def bX:List ae->Prop
 |[]=>True
 |c::cs=>cW c/\bX cs
end
theorem bG(c:ae):cW c↔c.id.size<=100/\c.attr.length<=40/\c.value.length<=40/\(∀t∈c.attr,oq t)/\(∀t∈c.value,oq t)/\bX c.conds:=by cases c;rfl
theorem cE{l:List ae}:bX l↔∀c∈l,cW c:=by
 induction l with
 |nil=>simp[bX]
 |cons c l ih=>simp[bX,ih]
mutual
theorem AY:∀(c:ae) (a d:Nat) (x:Nat×Nat×ae),cW c->x∈gD c a d->cW x.2.2
 | .mk k g i at' v ac cs,a,d,x,h,hx=>by
   simp only[gD,mem_cons]at hx
   rcases hx with rfl|hx
   ·exact h
   ·exact tr cs _ _ x ((bG _).1 h).2.2.2.2.2 hx
theorem tr:∀(l:List ae) (a d:Nat) (x:Nat×Nat×ae),bX l->x∈cX l a d->cW x.2.2
 |[],a,d,x,_,hx=>by simp[cX]at hx
 |c::cs,a,d,x,h,hx=>by
  simp only[cX,mem_append]at hx
  rcases hx with hx|hx
  ·exact AY c a d x h.1 hx
  ·exact tr cs _ d x h.2 hx
end
theorem cI{l:List Test}(h:∀t∈l,oq t):∀t∈l,t.list.length<=1000000:=λt ht=>Nat.le_trans (h t ht).1 (by omega)
open Go.Proofs.Tryz
theorem jD(c:ae):aA c.pv 0 7=some [pI c.kind,pB c.goal,pS c.id,.list 6 .sh (c.attr.map Test.pv),.list 6 .sh (c.value.map Test.pv),pB c.acc,.list 7 .sh (c.conds.map ae.pv)]:=by rw[ae.cH];rfl
theorem aaa:∀(n:Nat) (fl:Fl) (l:List ae) (dZ deep:Nat),ah l<=n->dZ<=1000->deep<=21->au prog 17 [.list 7 fl (l.map ae.pv),pI (dZ:Nat),pI (deep:Nat)] λp=>∃r:Nat,p=pI (r:Nat)/\r<=dZ+1/\(r<=dZ->ah l=r):=by
 intro n;induction n with
 |zero=>
  intro fl l dZ deep h hm hd;have:l=[]:=by
   cases l with
   |nil=>rfl
   |cons c l=>simp[ah,bN]at h
  subst this;refine au.of (mQ.c ?_);refine ab.mk (λh=>⟨dZ+1,?_,by omega,λh=>by omega⟩) (λh=>?_)
  ·rw[aD (by omega) (by omega)];rfl
  ·refine⟨λs _=>s=0,?_,?_⟩
   ·exact ak.up2 0 (by omega) (λk x u=>x=0) rfl λk x u next hk hx av=>by
     have:k=0:=by omega
     subst this hx;exact ab.f (by simp) rfl
   ·rintro s u rfl;rw[aD (by omega) (by omega),if_neg (by omega)];exact⟨0,rfl,by omega,λ_=>rfl⟩
 |succ n ih=>
  intro fl l dZ deep h hm hd;refine au.of (mQ.c ?_);refine ab.mk (λh=>⟨dZ+1,?_,by omega,λh=>by omega⟩) (λhdd=>?_)
  ·rw[aD (by omega) (by omega)];rfl
  ·have hdd:=of_decide_eq_false hdd;refine⟨λs _=>∃m:Nat,s=(m:Int)/\m<=2*dZ+2/\(m<=dZ->ah l=m),?_,?_⟩
   ·refine ak.up2 (2*dZ+5) (by omega) (λk x u=>∃m:Nat,x=(m:Int)/\k<=m/\m<=2*dZ+2/\(m<=dZ->ah (l.take k)=m)) ⟨0,rfl,by omega,by omega,λ_=>by simp[ah]⟩ ?_;rintro k _ u next hk ⟨m,rfl,hkm,yB,fw⟩ av
    refine ab.mk (λh1=>ab.mk (λh2=>?_) (λh2=>?_)) (λh1=>?_)
    ·have h1:=of_decide_eq_true h1;have h2:=of_decide_eq_true h2;simp only[length_map]at h1;have bZ:k<l.length:=by omega
     have hs:=fw (by omega);have eJ:=dz (getElem_mem bZ);refine⟨by omega,_,aC bZ,.sh,l[k].conds.map ae.pv,by rw[ae.cH];rfl,?_⟩;rw[aD (x:=(deep:Int)+1) (by omega) (by omega)];refine(ih .sh l[k].conds dZ (deep+1) (by omega) hm (by omega)).call ?_;rintro _ ⟨r,rfl,Ph,DL⟩;refine⟨_,rfl,?_⟩;dsimp only;rw[aD (x:=(1:Int)+_) (by omega) (by omega),aD (x:=(m:Int)+_) (by omega) (by omega)];refine av (by omega) _ _ ⟨m+1+r,by omega,by omega,by omega,λhle=>?_⟩;rw[eH bZ,hs,DL (by omega)];omega
    ·have h2:=of_decide_eq_false h2;exact⟨m,rfl,yB,λhle=>by omega⟩
    ·have h1:=of_decide_eq_false h1;simp only[length_map]at h1;rw[TU (by omega)]at fw;exact⟨m,rfl,yB,fw⟩
   ·rintro _ u ⟨m,rfl,yB,fw⟩;rw[aD (by omega) (by omega)];by_cases bI:(dZ:Int)+1<(m:Int)
    ·rw[if_pos bI];exact⟨dZ+1,rfl,by omega,λh=>by omega⟩
    ·rw[if_neg bI];exact⟨m,rfl,by omega,fw⟩
theorem yR(fl:Fl)(l:List Test)(hl:l.length<=1000000):au prog 70 [.list 6 fl (l.map Test.pv)] λp=>∃q:Bool,p=pB q/\(q=false->∀t∈l,oq t):=by
 refine au.of (nO.c ?_);refine ak.each (n:=l.length) (by omega) (λk u=>∀t∈l.take k,oq t) (by simp) ?_ ?_
 ·intro k u next hk hg av
  have yes:∃q:Bool,wk (pB true)=pB q/\(q=false->∀t∈l,oq t):=⟨true,rfl,λh=>by cases h⟩;refine ab.t (by simpa using hk) ⟨by omega,_,aC hk,_,_,rfl,ab.mk (λ_=>yes) (λa1=>⟨by omega,_,aC hk,_,rfl,ab.mk (λ_=>yes) (λa2=>⟨by omega,_,aC hk,_,rfl,ab.mk (λ_=>yes) (λa3=>av _ ?_)⟩)⟩)⟩;have a1:=of_decide_eq_false a1;have a2:=of_decide_eq_false a2;have a3:=of_decide_eq_false a3;simp only[length_map]at a1;intro t ht;rw[take_add_one,getElem?_eq_getElem hk,mem_append]at ht;rcases ht with ht|ht
  ·exact hg t ht
  ·simp only[toList_some,List.mem_singleton]at ht;subst ht;exact⟨by omega,by omega,by omega⟩
 ·intro u next hg
  rw[take_length]at hg;exact ab.f (by simp) ⟨false,rfl,λ_=>hg⟩
theorem Iw:∀(n:Nat) (fl:Fl) (l:List ae),ah l<=n->ah l<=1000000->au prog 18 [.list 7 fl (l.map ae.pv)] λp=>∃q:Bool,p=pB q/\(q=false->bX l):=by
 intro n;induction n with
 |zero=>
  intro fl l h _;have:l=[]:=by
   cases l with
   |nil=>rfl
   |cons c l=>simp[ah,bN]at h
  subst this;refine au.of (ir.c ?_);exact ak.each (n:=0) (by omega) (λk u=>True) trivial (λk u next hk=>by omega) (λu next _=>ab.f (by simp) ⟨false,rfl,λ_=>trivial⟩)
 |succ n ih=>
  intro fl l h h6;refine au.of (ir.c ?_);have rD:=cK l;refine ak.each (n:=l.length) (by omega) (λk u=>∀c∈l.take k,cW c) (by simp) ?_ ?_
  ·intro k u next hk hg av
   have hm:=dz (getElem_mem hk);have yes:∃q:Bool,wk (pB true)=pB q/\(q=false->bX l):=⟨true,rfl,λh=>by cases h⟩;refine ab.t (by simpa using hk) ⟨by omega,_,aC hk,_,_,_,_,_,_,_,_,_,_,by rw[ae.cH];rfl,ab.mk (λ_=>yes) (λa1=>ab.mk (λ_=>yes) (λa2=>ab.mk (λ_=>yes) (λa3=>?_)))⟩;have a1:=of_decide_eq_false a1;have a2:=of_decide_eq_false a2;have a3:=of_decide_eq_false a3;simp only[length_map]at a2 a3;refine(yR .sh l[k].attr (by omega)).call ?_;rintro _ ⟨q1,rfl,hq1⟩;refine⟨_,rfl,ab.mk (λ_=>yes) (λb1=>(yR .sh l[k].value (by omega)).call ?_)⟩;rintro _ ⟨q2,rfl,Mj⟩;refine⟨_,rfl,ab.mk (λ_=>yes) (λb2=>(ih .sh l[k].conds (by omega) (by omega)).call ?_)⟩;rintro _ ⟨q3,rfl,HK⟩;refine⟨_,rfl,ab.mk (λ_=>yes) (λb3=>av _ ?_)⟩;intro c hc;rw[take_add_one,getElem?_eq_getElem hk,mem_append]at hc;rcases hc with hc|hc
   ·exact hg c hc
   ·simp only[toList_some,List.mem_singleton]at hc;subst hc;exact(bG _).2 ⟨by omega,by omega,by omega,hq1 b1,Mj b2,HK b3⟩
  ·intro u next hg
   rw[take_length]at hg;exact ab.f (by simp) ⟨false,rfl,λ_=>cE.2 hg⟩
theorem VI(v:Int)(n:Nat)(h1:1<=n)(h2:n<=1000000):au prog 31 [pI v,pI (n:Nat)] λp=>∃k:Nat,p=pI (k:Nat)/\k<n:=by
 refine au.of (rX.c ?_);have hm:=Int.tmod_lt_of_pos v (show(0:Int)<(n:Int) by omega);refine ab.f (by simp;omega) ⟨by omega,ab.mk (λh=>?_) (λh=>?_)⟩
 ·have h:=of_decide_eq_true h;have Zd: -(n:Int)<Int.tmod v n:=by
   have:=Int.lt_tmod_of_pos v (show(0:Int)<(n:Int) by omega);omega
  refine⟨(Int.tmod v n+n).toNat,?_,by omega⟩;rw[aD (by omega) (by omega)];simp only[wk,bU];congr 2;omega
 ·have h:=of_decide_eq_false h;refine⟨(Int.tmod v n).toNat,?_,by omega⟩;simp only[wk,bU];congr 2;omega
theorem OH(f:Fl)(l:List Sym)(hl:l.length<=1000000):Pure prog 243 [.list 3 f (l.map Sym.pv)] (.list 3 .sh (l.map Sym.pv)):=by
 refine au.of (mu.c ?_);exact aT.Pq (by trivial) (by simp;omega) (by simp;omega) λf1 μ1 t1=>rfl
theorem BF(f:Fl)(l:List Test)(hl:l.length<=1000000)(ht:∀t∈l,t.list.length<=1000000):Pure prog 186 [.list 6 f (l.map Test.pv)] (.list 6 .sh (l.map Test.pv)):=by
 refine au.of (oM.c ?_);refine ak.dd (n:=l.length) (by omega) (λi x u=>x.2=(l.take i).map Test.pv/\lV x.1 i 6 u) ⟨rfl,trivial⟩ ?_ ?_
 ·rintro i ⟨f,_⟩ u next hi ⟨rfl,zD⟩ av
  refine ab.t (by simpa using hi) ⟨by omega,_,aC hi,_,_,_,_,_,_,_,rfl,by omega,_,aC hi,_,_,rfl,?_⟩;refine(OH .sh l[i].list (ht _ (getElem_mem hi))).call ⟨_,_,rfl,?_⟩;have hlen:((l.take i).map Test.pv).length=i:=by rw[length_map,length_take];omega
  refine aT.Pq (by rw[hlen];exact zD) (by rw[hlen];simp;omega) (by rw[hlen];simp;omega) λf1 μ1 t1=>av _ _ ⟨?_,?_⟩
  ·rw[eP hi]
  ·rw[hlen]at t1;exact t1
 ·rintro⟨f,_⟩ u next ⟨rfl,zD⟩
  refine ab.f (by simp) ?_;rw[take_length];rfl
theorem KO:∀(n:Nat) (f:Fl) (l:List ae),ah l<=n->ah l<=1000000->bX l->Pure prog 71 [.list 7 f (l.map ae.pv)] (.list 7 .sh (l.map ae.pv)):=by
 intro n;induction n with
 |zero=>
  intro f l h _ _;have:l=[]:=by
   cases l with
   |nil=>rfl
   |cons c l=>simp[ah,bN]at h
  subst this;refine au.of (iK.c ?_);exact ak.dd (n:=0) (by omega) (λ_ x _=>x.2=[]) rfl (λk x u next hk=>by omega) (λx u next hx=>ab.f (by simp) (by rw[hx];rfl))
 |succ n ih=>
  intro f l h h6 hli;have rD:=cK l;refine au.of (iK.c ?_);refine ak.dd (n:=l.length) (by omega) (λi x u=>x.2=(l.take i).map ae.pv/\lV x.1 i 7 u) ⟨rfl,trivial⟩ ?_ ?_
  ·rintro i ⟨f,_⟩ u next hi ⟨rfl,zD⟩ av
   have hm:=dz (getElem_mem hi);obtain⟨_,ha,hv,Ja,NY,oB⟩:=(bG _).1 (cE.1 hli _ (getElem_mem hi));refine ab.t (by simpa using hi) ⟨by omega,_,aC hi,_,_,_,_,_,_,_,_,_,_,jD _,?_⟩;refine Pure.call (r:=.agg l[i].pv) (au.of (pF.c ?_)) ?_
   ·refine(BF .sh _ (by omega) (cI Ja)).call ⟨_,_,rfl,(BF .sh _ (by omega) (cI NY)).call ⟨_,_,rfl,(ih .sh _ (by omega) (by omega) oB).call ⟨_,_,rfl,?_⟩⟩⟩;rw[ae.cH];rfl
   ·rw[ae.cH];refine⟨_,_,_,_,_,_,_,_,_,_,rfl,?_⟩;have hlen:((l.take i).map ae.pv).length=i:=by rw[length_map,length_take];omega
    refine aT.Pq (by rw[hlen];exact zD) (by rw[hlen];simp;omega) (by rw[hlen];simp;omega) λf1 μ1 t1=>av _ _ ⟨?_,?_⟩
    ·rw[eP hi,ae.cH l[i]]
    ·rw[hlen]at t1;exact t1
  ·rintro⟨f,_⟩ u next ⟨rfl,zD⟩
   refine ab.f (by simp) ?_;rw[take_length];rfl
def bQ(g:FuncId)(args:List PV)(φ:Prop):Prop:=au prog g args λp=>∃q:Bool,p=pB q/\(q=true↔φ)
theorem bQ.call{g:FuncId}{args:List PV}{φ:Prop}(h:bQ g args φ){μ:Mem}{K:Kq}(hy:φ->K (pB true) μ)(hn:¬φ->K (pB false) μ):aa prog g args μ K:=au.call h λp ⟨q,e,hq⟩=>by
 subst e;cases q with
 |true=>exact hy (hq.1 rfl)
 |false=>exact hn λh=>by have:=hq.2 h;cases this
theorem bQ.yes{φ:Prop}(h:φ):∃q:Bool,wk (pB true)=pB q/\(q=true↔φ):=⟨true,rfl,λ_=>h,λ_=>rfl⟩
theorem bQ.no{φ:Prop}(h:¬φ):∃q:Bool,wk (pB false)=pB q/\(q=true↔φ):=⟨false,rfl,(λh=>by cases h),λh'=>absurd h' h⟩
theorem jr{T:Type}{l m:List T}{n:Nat}{body:(Int->Mem->Prop)->Int->Mem->Prop}{u:Mem}(hl:l.length=n)(hm:m.length=n)(hn:n<9223372036854775808)
  (fE:∀(k:Nat) (hk:k<l.length) (bZ:k<m.length) (u:Mem) (next:Int->Mem->Prop),(l[k]=m[k]->∀u',next (wrap .i64 ((k:Int)+1)) u')->(l[k]≠m[k]->l≠m)->body next (k:Int) u) (eZ:∀(u:Mem) (next:Int->Mem->Prop),l=m->body next (n:Int) u):ak body 0 u:=by
 refine ak.each (n:=n) hn (λk u=>l.take k=m.take k) (by simp) ?_ ?_
 ·intro k u next hk hg av
  refine fE k (by omega) (by omega) u next (λe u'=>av u' ?_) (λaQ e=>aQ ?_)
  ·rw[take_add_one,take_add_one,hg,getElem?_eq_getElem (by omega),getElem?_eq_getElem (by omega),e]
  ·subst e;rfl
 ·intro u next hg
  rw[List.take_of_length_le (by omega),List.take_of_length_le (by omega)]at hg;exact eZ u next hg
theorem qf{T:Type}{l m:List T}{pv:T->List PV}(h:((((l.map pv).length:Nat):Int) != (((m.map pv).length:Nat):Int))=true):l≠m:=λe=>by subst e;simp at h
theorem nK{T:Type}{l m:List T}{pv:T->List PV}(h:((((l.map pv).length:Nat):Int) != (((m.map pv).length:Nat):Int))=false):m.length=l.length:=by simp at h;omega
theorem ab9(f g:Fl)(l m:List Sym)(hl:l.length<=1000000000):bQ 260 [.list 3 f (l.map Sym.pv),.list 3 g (m.map Sym.pv)] (l=m):=by
 refine au.of (wq.c (ab.mk (λh=>bQ.no (qf h)) (λh=>?_)));refine jr (l:=l) (m:=m) (n:=l.length) rfl (nK h) (by omega) (λk hk bZ u next hy cQ=>?_) (λu next e=>ab.f (by simp) (bQ.yes e));refine ab.t (by simpa using hk) ⟨by omega,_,aC hk,_,_,_,rfl,by omega,_,aC bZ,_,_,_,rfl,ab.mk (λh=>bQ.no (cQ λe=>?_)) (λh=>hy (cz.1 (nt h)) _)⟩;have h':eU l[k] m[k]=false:=nb h;rw[cz.2 e]at h';cases h'
theorem Es{a b:Test}(h1:a.rel=b.rel)(h2:a.var=b.var)(h3:a.sym=b.sym)(h4:a.list=b.list):a=b:=by cases a;cases b;simp_all
theorem Qk(f g:Fl)(l m:List Test)(hl:l.length<=1000000000)(ht:∀t∈l,t.list.length<=1000000000):bQ 204 [.list 6 f (l.map Test.pv),.list 6 g (m.map Test.pv)] (l=m):=by
 refine au.of (uk.c (ab.mk (λh=>bQ.no (qf h)) (λh=>?_)));refine jr (l:=l) (m:=m) (n:=l.length) rfl (nK h) (by omega) (λk hk bZ u next hy cQ=>?_) (λu next e=>ab.f (by simp) (bQ.yes e));refine ab.t (by simpa using hk) ⟨by omega,_,aC hk,_,rfl,by omega,_,aC bZ,_,rfl,ab.mk (λh1=>bQ.no (cQ λe=>?_)) (λh1=>⟨by omega,_,aC hk,_,rfl,by omega,_,aC bZ,_,rfl,ab.mk (λh2=>bQ.no (cQ λe=>?_)) (λh2=>⟨by omega,_,aC hk,_,_,_,rfl,by omega,_,aC bZ,_,_,_,rfl,ab.mk (λh3=>bQ.no (cQ λe=>?_)) (λh3=>⟨by omega,_,aC hk,_,_,rfl,by omega,_,aC bZ,_,_,rfl,?_⟩)⟩)⟩)⟩
 ·rw[e]at h1;simp at h1
 ·rw[e,eG]at h2;cases h2
 ·have:=nb h3;rw[show((l[k].sym.k == m[k].sym.k)&&(aF l[k].sym.t m[k].sym.t&&((l[k].sym.n == m[k].sym.n)&&true)))=true from cz.2 (by rw[e])]at this;cases this
 ·refine(ab9 _ _ l[k].list m[k].list (ht _ (getElem_mem hk))).call (λe=>⟨_,rfl,ab.f rfl (hy (Es (by simpa using h1) (bF.1 (nt h2)) (cz.1 (nt h3)) e) _)⟩) (λaQ=>⟨_,rfl,ab.t rfl (bQ.no (cQ λe=>aQ (by rw[e])))⟩)
theorem zK{a b:ae}(h1:a.kind=b.kind)(h2:a.goal=b.goal)(h3:a.id=b.id)(h4:a.attr=b.attr)(h5:a.value=b.value)(h6:a.acc=b.acc)(h7:a.conds=b.conds):a=b:=by
 cases a;cases b;simp_all [ae.kind,ae.goal,ae.id,ae.attr,ae.value,ae.acc,ae.conds]
theorem Yt(n:Nat)(ih:∀(f g:Fl) (l m:List ae),ah l<=n->ah l<=1000000->bX l->bQ 83 [.list 7 f (l.map ae.pv),.list 7 g (m.map ae.pv)] (l=m))(c d:ae)(hs:ah c.conds<=n)(h6:ah c.conds<=1000000)(hl:cW c):bQ 141 [.agg [pI c.kind,pB c.goal,pS c.id,.list 6 .sh (c.attr.map Test.pv),.list 6 .sh (c.value.map Test.pv),pB c.acc,.list 7 .sh (c.conds.map ae.pv)],.agg [pI d.kind,pB d.goal,pS d.id,.list 6 .sh (d.attr.map Test.pv),.list 6 .sh (d.value.map Test.pv),pB d.acc,.list 7 .sh (d.conds.map ae.pv)]] (c=d):=by
 obtain⟨_,l1,l2,l3,l4,l5⟩:=(bG c).1 hl;refine au.of (wx.c ?_);refine ab.mk (λh1=>ab.mk (λh2=>ab.mk (λh3=>ab.mk (λh4=>?_) (λh=>bQ.no λe=>?_)) (λh=>bQ.no λe=>?_)) (λh=>bQ.no λe=>?_)) (λh=>bQ.no λe=>?_)
 ·refine(Qk _ _ c.attr d.attr (by omega) (λt ht=>by have:=cI l3 t ht;omega)).call (λe1=>⟨_,rfl,ab.t rfl ?_⟩) (λaQ=>⟨_,rfl,ab.f rfl (bQ.no λe=>aQ (by rw[e]))⟩);refine(Qk _ _ c.value d.value (by omega) (λt ht=>by have:=cI l4 t ht;omega)).call (λe2=>⟨_,rfl,ab.t rfl ?_⟩) (λaQ=>⟨_,rfl,ab.f rfl (bQ.no λe=>aQ (by rw[e]))⟩);refine(ih .sh .sh c.conds d.conds hs h6 l5).call (λe3=>⟨_,rfl,bQ.yes (zK (by simpa using h1) (by simpa using h2) (bF.1 h3) e1 e2 (by simpa using h4) e3)⟩) (λaQ=>⟨_,rfl,bQ.no λe=>aQ (by rw[e])⟩)
 ·subst e;simp at h
 ·subst e;rw[eG]at h;cases h
 ·subst e;simp at h
 ·subst e;simp at h
theorem Ys:∀(n:Nat) (f g:Fl) (l m:List ae),ah l<=n->ah l<=1000000->bX l->bQ 83 [.list 7 f (l.map ae.pv),.list 7 g (m.map ae.pv)] (l=m):=by
 intro n;induction n with
 |zero=>
  intro f g l m h _ _;have:l=[]:=by
   cases l with
   |nil=>rfl
   |cons c l=>simp[ah,bN]at h
  subst this;refine au.of (l_.c (ab.mk (λh=>bQ.no (qf h)) (λh=>?_)));refine jr (l:=[]) (m:=m) (n:=0) rfl (nK h) (by omega) (λk hk=>by simp at hk) (λu next e=>ab.f (by simp) (bQ.yes e))
 |succ n ih=>
  intro f g l m h h6 hl;have rD:=cK l;refine au.of (l_.c (ab.mk (λh=>bQ.no (qf h)) (λh=>?_)));refine jr (l:=l) (m:=m) (n:=l.length) rfl (nK h) (by omega) (λk hk bZ u next hy cQ=>?_) (λu next e=>ab.f (by simp) (bQ.yes e));have hm:=dz (getElem_mem hk);refine ab.t (by simpa using hk) ⟨by omega,_,aC hk,_,_,_,_,_,_,_,_,_,_,jD _,by omega,_,aC bZ,_,_,_,_,_,_,_,_,_,_,jD _,?_⟩;refine(Yt n ih l[k] m[k] (by omega) (by omega) (cE.1 hl _ (getElem_mem hk))).call (λe=>⟨_,rfl,ab.f rfl (hy e _)⟩) (λaQ=>⟨_,rfl,ab.t rfl (bQ.no (cQ aQ))⟩)
theorem ZZ(f:Fl)(l:List aj)(n:Nat)(hn6:n<=1000000):au prog 69 [.list 12 f (l.map aj.pv),pI (n:Nat)] λp=>∃q:Bool,p=pB q/\(q=true->l.length<=n):=by
 refine au.of (rV.c (ab.mk (λh=>⟨false,rfl,λh=>by cases h⟩) (λh=>?_)));have hn:l.length<=n:=by simpa using h
 refine ak.each (n:=l.length) (by omega) (λ_ _=>True) trivial (λk u next hk _ av=>?_) (λu next _=>ab.f (by simp) ⟨true,rfl,λ_=>hn⟩);refine ab.t (by simpa using hk) ⟨by omega,_,aC hk,_,rfl,ab.mk (λ_=>⟨false,rfl,λh=>by cases h⟩) (λ_=>⟨by omega,_,aC hk,_,rfl,ab.mk (λ_=>⟨false,rfl,λh=>by cases h⟩) (λ_=>⟨by omega,_,aC hk,_,rfl,ab.mk (λ_=>⟨false,rfl,λh=>by cases h⟩) (λ_=>av _ trivial)⟩)⟩)⟩
theorem VT(f:Fl)(l:List aj)(n:Nat)(hn6:n<=1000000):au prog 16 [.list 12 f (l.map aj.pv),pI (n:Nat)] λp=>∃q:Bool,p=pB q/\(q=true->l.length<=n):=by
 refine au.of (rW.c ?_);exact(ZZ f l n hn6).call λp ⟨q,e,h⟩=>⟨q,e,q,rfl,h⟩
theorem EL(f g:Fl)(l m:List Test)(hl:l.length<=1000000)(ht:∀t∈l,t.list.length<=1000000):bQ 221 [.list 6 f (l.map Test.pv),.list 6 g (m.map Test.pv)] (l=m):=by
 refine au.of (Gm.c (ab.mk (λh=>bQ.no (qf h)) (λh=>?_)));refine jr (l:=l) (m:=m) (n:=l.length) rfl (nK h) (by omega) (λk hk bZ u next hy cQ=>?_) (λu next e=>ab.f (by simp) (bQ.yes e));refine ab.t (by simpa using hk) ⟨by omega,_,aC hk,_,_,_,_,_,_,_,rfl,by omega,_,aC bZ,_,_,_,_,_,_,_,rfl,ab.mk (λh1=>bQ.no (cQ λe=>?_)) (λh1=>ab.mk (λh2=>bQ.no (cQ λe=>?_)) (λh2=>ab.mk (λh3=>bQ.no (cQ λe=>?_)) (λh3=>ab.mk (λh4=>bQ.no (cQ λe=>?_)) (λh4=>?_))))⟩
 ·rw[e]at h1;simp at h1
 ·rw[e,eG]at h2;cases h2
 ·have h':eU l[k].sym m[k].sym=false:=nb h3;rw[cz.2 (by rw[e])]at h';cases h'
 ·exact absurd (by rw[e]) (qf h4)
 ·have Fj:=ht _ (getElem_mem hk);refine jr (l:=l[k].list) (m:=m[k].list) (n:=l[k].list.length) rfl (nK h4) (by omega) (λi hi tD u1 iZ Mf Rm=>?_) (λu1 iZ e=>ab.f (by simp) (hy (Es (by simpa using h1) (bF.1 (nt h2)) (cz.1 (nt h3)) e) _));refine ab.t (by simpa using hi) ⟨by omega,_,aC hi,_,_,_,rfl,by omega,_,aC tD,_,_,_,rfl,ab.mk (λh5=>bQ.no (cQ λe=>Rm (λe'=>?_) (by rw[e]))) (λh5=>Mf (cz.1 (nt h5)) _)⟩;have h':eU l[k].list[i] m[k].list[i]=false:=nb h5;rw[cz.2 e']at h';cases h'
theorem ab6:∀(n:Nat) (fa fv fc ga gv gc:Fl) (c d:ae),ah c.conds<=n->ah c.conds<=1000000->cW c->
  bQ 163 [.agg [pI c.kind,pB c.goal,pS c.id,.list 6 fa (c.attr.map Test.pv),.list 6 fv (c.value.map Test.pv),pB c.acc,.list 7 fc (c.conds.map ae.pv)],.agg [pI d.kind,pB d.goal,pS d.id,.list 6 ga (d.attr.map Test.pv),.list 6 gv (d.value.map Test.pv),pB d.acc,.list 7 gc (d.conds.map ae.pv)]] (c=d):=by
 intro n;induction n with
 |zero=>
  intro fa fv fc ga gv gc c d h0 h6 hl;obtain⟨_,l1,l2,l3,l4,l5⟩:=(bG c).1 hl;have tz:c.conds=[]:=by
   cases hc:c.conds with
   |nil=>rfl
   |cons x l=>rw[hc]at h0;simp[ah,bN]at h0
  refine au.of (yV.c ?_);refine ab.mk (λh=>bQ.no λe=>?_) (λh1=>ab.mk (λh=>bQ.no λe=>?_) (λh2=>ab.mk (λh=>bQ.no λe=>?_) (λh3=>ab.mk (λh=>bQ.no λe=>?_) (λh4=>ab.mk (λh=>bQ.no λe=>?_) (λh5=>?_)))))
  ·subst e;simp at h
  ·subst e;simp at h
  ·subst e;rw[eG]at h;cases h
  ·subst e;simp at h
  ·subst e;simp at h
  ·refine(EL _ _ c.attr d.attr (by omega) (λt ht=>by have:=cI l3 t ht;omega)).call (λe1=>⟨_,rfl,ab.f rfl ?_⟩) (λaQ=>⟨_,rfl,ab.t rfl (bQ.no λe=>aQ (by rw[e]))⟩);refine(EL _ _ c.value d.value (by omega) (λt ht=>by have:=cI l4 t ht;omega)).call (λe2=>⟨_,rfl,ab.f rfl ?_⟩) (λaQ=>⟨_,rfl,ab.t rfl (bQ.no λe=>aQ (by rw[e]))⟩);refine jr (l:=c.conds) (m:=d.conds) (n:=0) (by rw[tz];rfl) (by have:=nK h5;rw[tz]at this;exact this) (by omega) (λk hk=>by rw[tz]at hk;simp at hk) (λu next e=>?_);refine ab.f (by rw[tz];simp) (bQ.yes (zK (by simpa using h1) (by simpa using h2) (bF.1 (nt h3)) e1 e2 (by simpa using h4) e))
 |succ n ih=>
  intro fa fv fc ga gv gc c d h0 h6 hl;obtain⟨_,l1,l2,l3,l4,l5⟩:=(bG c).1 hl;have rD:=cK c.conds;refine au.of (yV.c ?_);refine ab.mk (λh=>bQ.no λe=>?_) (λh1=>ab.mk (λh=>bQ.no λe=>?_) (λh2=>ab.mk (λh=>bQ.no λe=>?_) (λh3=>ab.mk (λh=>bQ.no λe=>?_) (λh4=>ab.mk (λh=>bQ.no λe=>?_) (λh5=>?_)))))
  ·subst e;simp at h
  ·subst e;simp at h
  ·subst e;rw[eG]at h;cases h
  ·subst e;simp at h
  ·subst e;simp at h
  ·refine(EL _ _ c.attr d.attr (by omega) (λt ht=>by have:=cI l3 t ht;omega)).call (λe1=>⟨_,rfl,ab.f rfl ?_⟩) (λaQ=>⟨_,rfl,ab.t rfl (bQ.no λe=>aQ (by rw[e]))⟩);refine(EL _ _ c.value d.value (by omega) (λt ht=>by have:=cI l4 t ht;omega)).call (λe2=>⟨_,rfl,ab.f rfl ?_⟩) (λaQ=>⟨_,rfl,ab.t rfl (bQ.no λe=>aQ (by rw[e]))⟩);refine jr (l:=c.conds) (m:=d.conds) (n:=c.conds.length) rfl (nK h5) (by omega) (λk hk bZ u next hy cQ=>?_) (λu next e=>ab.f (by simp) (bQ.yes (zK (by simpa using h1) (by simpa using h2) (bF.1 (nt h3)) e1 e2 (by simpa using h4) e)));have hm:=dz (getElem_mem hk);refine ab.t (by simpa using hk) ⟨by omega,_,aC hk,_,_,_,_,_,_,_,_,_,_,jD _,by omega,_,aC bZ,_,_,_,_,_,_,_,_,_,_,jD _,?_⟩;refine(ih .sh .sh .sh .sh .sh .sh c.conds[k] d.conds[k] (by omega) (by omega) (cE.1 l5 _ (getElem_mem hk))).call (λe=>⟨_,rfl,ab.f rfl (hy e _)⟩) (λaQ=>⟨_,rfl,ab.t rfl (bQ.no λe=>cQ aQ (by rw[e]))⟩)
theorem EJ(f:Fl)(l:List Test)(hl:l.length<=1000000)(ht:∀t∈l,t.list.length<=1000000):Pure prog 222 [.list 6 f (l.map Test.pv)] (.list 6 .sh (l.map Test.pv)):=by
 refine au.of (Gl.c ?_);refine ak.dd (n:=l.length) (by omega) (λi x u=>x.2=(l.take i).map Test.pv/\Ow [e_ x.1 i 6] u) ⟨rfl,Ow.nil (L:=[]) trivial (.inl rfl)⟩ ?_ ?_
 ·rintro i ⟨f,_⟩ u next hi ⟨rfl,zD⟩ av
  have hti:=ht _ (getElem_mem hi);refine ab.t (by simpa using hi) ⟨by omega,_,aC hi,_,_,_,_,_,_,_,rfl,?_⟩;have hlen:((l.take i).map Test.pv).length=i:=by rw[length_map,length_take];omega
  have hO:Ow [e_ .nil 0 3,e_ f i 6] u:=zD.nil (.inl rfl);refine hO.app (by simp) (by simp;omega) (by simp;omega) λf14 u1 h1=>?_;refine(h1.swap).app (by rw[hlen]) (by simp;omega) (by simp;omega) λf19 u2 h2=>av _ _ ⟨?_,?_⟩
  ·rw[eP hi];rfl
  ·exact h2.tail (L':=[]) λ_ _=>trivial
 ·rintro⟨f,_⟩ u next ⟨rfl,zD⟩
  refine ab.f (by simp) ?_;rw[take_length];rfl
theorem Qi:∀(n:Nat) (f:Fl) (l:List ae),ah l<=n->ah l<=1000000->bX l->Pure prog 173 [.list 7 f (l.map ae.pv)] (.list 7 .sh (l.map ae.pv)):=by
 intro n;induction n with
 |zero=>
  intro f l h _ _;have:l=[]:=by
   cases l with
   |nil=>rfl
   |cons c l=>simp[ah,bN]at h
  subst this;refine au.of (vX.c ?_);exact ak.dd (n:=0) (by omega) (λ_ x _=>x.2=[]) rfl (λk x u next hk=>by omega) (λx u next hx=>ab.f (by simp) (by rw[hx];rfl))
 |succ n ih=>
  intro f l h h6 hli;have rD:=cK l;refine au.of (vX.c ?_);refine ak.dd (n:=l.length) (by omega) (λi x u=>x.2=(l.take i).map ae.pv/\lV x.1 i 7 u) ⟨rfl,trivial⟩ ?_ ?_
  ·rintro i ⟨f,_⟩ u next hi ⟨rfl,zD⟩ av
   have hm:=dz (getElem_mem hi);obtain⟨_,ha,hv,Ja,NY,oB⟩:=(bG _).1 (cE.1 hli _ (getElem_mem hi));refine ab.t (by simpa using hi) ⟨by omega,_,aC hi,_,_,_,_,_,_,_,_,_,_,jD _,?_⟩;refine Pure.call (r:=.agg l[i].pv) (au.of (sE.c ?_)) ?_
   ·refine(EJ .sh _ (by omega) (cI Ja)).call ⟨_,_,rfl,(EJ .sh _ (by omega) (cI NY)).call ⟨_,_,rfl,(ih .sh _ (by omega) (by omega) oB).call ⟨_,_,rfl,?_⟩⟩⟩;rw[ae.cH];rfl
   ·rw[ae.cH];refine⟨_,_,_,_,_,_,_,_,_,_,rfl,?_⟩;have hlen:((l.take i).map ae.pv).length=i:=by rw[length_map,length_take];omega
    refine aT.Pq (by rw[hlen];exact zD) (by rw[hlen];simp;omega) (by rw[hlen];simp;omega) λf1 μ1 t1=>av _ _ ⟨?_,?_⟩
    ·rw[eP hi,ae.cH l[i]]
    ·rw[hlen]at t1;exact t1
  ·rintro⟨f,_⟩ u next ⟨rfl,zD⟩
   refine ab.f (by simp) ?_;rw[take_length];rfl
theorem Uq(fa fv fc:Fl)(c:ae)(hs:ah c.conds<=1000000)(hl:cW c):Pure prog 164 [.agg [pI c.kind,pB c.goal,pS c.id,.list 6 fa (c.attr.map Test.pv),.list 6 fv (c.value.map Test.pv),pB c.acc,.list 7 fc (c.conds.map ae.pv)]] (.agg c.pv):=by
 obtain⟨_,ha,hv,Ja,NY,oB⟩:=(bG _).1 hl;refine au.of (sE.c ?_);refine(EJ _ _ (by omega) (cI Ja)).call ⟨_,_,rfl,(EJ _ _ (by omega) (cI NY)).call ⟨_,_,rfl,(Qi _ _ _ (le_refl _) hs oB).call ⟨_,_,rfl,?_⟩⟩⟩;rw[ae.cH];rfl
theorem ab7(fc fa:Fl)(p:Prod)(hs:ah p.conds<=1000000)(hl:bX p.conds)(ha:p.bk.length<=1000000):Pure prog 109 [.agg [pS p.name,.list 7 fc (p.conds.map ae.pv),.list 19 fa (p.bk.map cT.pv)]] (.agg p.pv):=by
 refine au.of (IV.c ?_);refine(Qi _ _ _ (le_refl _) hs hl).q ⟨_,_,rfl,?_⟩;exact aT.Pq (by trivial) (by simp;omega) (by simp;omega) λf1 μ1 t1=>rfl
end Go.Proofs.YtbodiiomcfgokaaGreat
namespace Go.aP
open Go.RowKit
def holds(rel:Int)(a b:Sym):Bool:=
 bif rel == 1 then eU a b else bif rel == 2 then !eU a b else
 bif rel == 3 then(a.k == 2&&b.k == 2)&&decide (a.n<b.n)else bif rel == 4 then(a.k == 2&&b.k == 2)&&decide (a.n<=b.n)else
 bif rel == 5 then(a.k == 2&&b.k == 2)&&decide (a.n>b.n)else bif rel == 6 then(a.k == 2&&b.k == 2)&&decide (a.n>=b.n)else
 bif rel == 7 then a.k == b.k else false
def gi:List Bind->ByteArray->Option Sym
 |[],_=>none
 |b::l,v=>if aF b.v v=true then some b.s else gi l v
theorem yL(l r:List Bind)(v:ByteArray):gi (l++r) v=(gi l v).or (gi r v):=by
 induction l with
 |nil=>simp[gi]
 |cons b l ih=>simp only[cons_append,gi];split<;>simp[ih]
theorem xB{l:List Bind}{v:ByteArray}{k:Nat}(hk:k<l.length)(h:gi (l.take k) v=none):gi (l.take (k+1)) v=if aF l[k].v v=true then some l[k].s else none:=by
 rw[take_add_one,yL,h,Option.none_or,getElem?_eq_getElem hk];simp[gi]
theorem Ie{l:List Bind}{v:ByteArray}{k:Nat}(hk:k<l.length)(h:gi (l.take k) v=none)(he:aF l[k].v v=true):gi l v=some l[k].s:=by
 have h1:=xB hk h;rw[if_pos he]at h1;have h2:=yL (l.take (k+1)) (l.drop (k+1)) v;rw[take_append_drop,h1]at h2;exact h2
def met(t:Test)(s:Sym)(l:List Bind):Option (List Bind):=
 if t.rel=8 then(if t.list.any (λx=>eU x s)=true then some l else none)
 else if t.rel<1\/t.rel>7 then none
 else if t.var=⟨#[]⟩then(if holds t.rel s t.sym=true then some l else none)
 else match gi l t.var with
  |some x=>if holds t.rel s x=true then some l else none
  |none=>if t.rel=1 then some (l++[⟨t.var,s⟩])else none
theorem vd{t:Test}{s:Sym}{l l':List Bind}(h:met t s l=some l'):l'.length<=l.length+1:=by
 unfold met at h
 (repeat' split at h)<;>cases h<;>simp
def fT:List Test->Sym->List Bind->Option (List Bind)
 |[],_,l=>some l
 |t::ts,s,l=>(met t s l).bind (fT ts s)
theorem yT(a b:List Test)(s:Sym)(l:List Bind):fT (a++b) s l=(fT a s l).bind (fT b s):=by
 induction a generalizing l with
 |nil=>rfl
 |cons t a ih=>
  simp only[cons_append,fT];cases met t s l with
  |none=>rfl
  |some l'=>exact ih l'
theorem rz{ts:List Test}{s:Sym}{l lk:List Bind}{k:Nat}(hk:k<ts.length)(h:fT (ts.take k) s l=some lk):fT (ts.take (k+1)) s l=met ts[k] s lk:=by
 rw[take_add_one,yT,h,getElem?_eq_getElem hk];simp only[toList_some,bind_some,fT];cases met ts[k] s lk<;>rfl
theorem xP{ts:List Test}{s:Sym}{l:List Bind}(k:Nat)(h:fT (ts.take k) s l=none):fT ts s l=none:=by
 have h2:=yT (ts.take k) (ts.drop k) s l;rw[take_append_drop,h]at h2;exact h2
theorem nM{ts:List Test}{s:Sym}{l l':List Bind}(h:fT ts s l=some l'):l'.length<=l.length+ts.length:=by
 induction ts generalizing l with
 |nil=>simp only[fT,Option.some.injEq]at h;subst h;simp
 |cons t ts ih=>
  simp only[fT,bind_eq_some_iff]at h;obtain⟨l1,h1,h2⟩:=h;have:=vd h1;have:=ih h2;simp only[length_cons];omega
@[reducible] def jo(v:ByteArray):Test:=⟨1,v,⟨0,⟨#[]⟩,0⟩,[]⟩
def c_(c:ae)(e:aj)(l:List Bind):Option (List Bind):=
 if(c.kind=1\/c.kind=2)/\(c.goal=true->e.goal=true)/\c.acc=e.acc then
  (met (jo c.id) e.id l).bind λl1=>(fT c.attr e.attr l1).bind λl2=>fT c.value e.value l2
 else none
theorem DW{c:ae}{e:aj}{l l':List Bind}(h:c_ c e l=some l'):l'.length<=l.length+1+c.attr.length+c.value.length:=by
 unfold c_ at h;split at h
 ·simp only[bind_eq_some_iff]at h;obtain⟨l1,h1,l2,h2,h3⟩:=h;have:=vd h1;have:=nM h2;have:=nM h3;omega
 ·cases h
def aX(c:ae)(l:List Bind)(es:List aj):List (aj×List Bind):=es.filterMap λe=>(c_ c e l).map λr=>(e,r)
theorem nV{c:ae}{l:List Bind}{es:List aj}{k:Nat}(hk:k<es.length):
  aX c l (es.take (k+1))=aX c l (es.take k)++((c_ c es[k] l).map λr=>(es[k],r)).toList:=by
 unfold aX;rw[take_add_one,getElem?_eq_getElem hk,List.filterMap_append];congr 1
theorem mC{c:ae}{l:List Bind}{es:List aj}(k:Nat):aX c l es=aX c l (es.take k)++aX c l (es.drop k):=by
 unfold aX;rw[<- List.filterMap_append,take_append_drop]
theorem PW{c:ae}{l:List Bind}{es:List aj}{k:Nat}(hk:k<es.length){r:List Bind}(h:c_ c es[k] l=some r):
  ∃hj:(aX c l (es.take k)).length<(aX c l es).length,(aX c l es)[(aX c l (es.take k)).length]'hj=(es[k],r):=by
 have e:=mC (c:=c) (l:=l) (es:=es) (k+1);rw[nV hk,h]at e;simp only[Option.map_some,toList_some,append_assoc,cons_append,List.nil_append]at e;have hlen:(aX c l (es.take k)).length<(aX c l es).length:=by rw[e];simp
 refine⟨hlen,?_⟩;have:(aX c l es)[(aX c l (es.take k)).length]?=some (es[k],r):=by
  rw[e,List.getElem?_append_right (le_refl _)];simp
 rw[getElem?_eq_getElem hlen]at this;exact Option.some.inj this
end Go.aP
namespace Go.Proofs.YtbodiiomcfgokaaGreat
open Go.Proofs.Tryz Go.aP Go.RowKit
theorem SM(rel:Int)(a b:Sym):Pure prog 296 [pI rel,.agg a.pv,.agg b.pv] (pB (holds rel a b)):=by
 refine au.of (Gc.c ?_);refine⟨λs u=>s=(a.k == 2&&b.k == 2),?_,?_⟩
 ·exact ab.mk (λh=>by simp[h]) (λh=>by simp[h])
 ·rintro s u rfl
  repeat' (refine ab.mk (λh=>?_) (λh=>?_))
  all_goals simp_all [holds,eU,wk,bU]
@[reducible] def adU:Option Sym->PV
 |some s=>.az [.agg s.pv,pB true]
 |none=>.az [.agg [pI 0,pS ⟨#[]⟩,pI 0],pB false]
theorem kj(fl:Fl)(l:List aP.Bind)(hn:l.length<=1000000)(v:ByteArray):Pure prog 233 [.list 4 fl (l.map Bind.pv),pS v] (adU (gi l v)):=by
 refine au.of (Lj.c ?_);refine ak.each (n:=l.length) (by omega) (λk u=>gi (l.take k) v=none) (by simp[gi]) ?_ ?_
 ·intro k u next hk hg av
  refine ab.t (by simpa using hk) ⟨by omega,_,aC hk,_,_,_,_,rfl,ab.mk (λhe=>?_) (λhe=>?_)⟩
  ·rw[Ie hk hg he];rfl
  ·exact av _ (by rw[xB hk hg,he];rfl)
 ·intro u next hg
  refine ab.f (by simp) ?_;rw[take_length]at hg;rw[hg];rfl
@[reducible] def aim:Option (List aP.Bind)->PV
 |some l=>.az [.list 4 .sh (l.map Bind.pv),pB true]
 |none=>.az [.list 4 .sh [],pB false]
def yl(o:Option (List aP.Bind))(p:PV):Prop:=∃l:List aP.Bind,p=.az [.list 4 .sh (l.map Bind.pv),pB o.isSome]/\∀l',o=some l'->l=l'
theorem SH(fl:Fl)(t:Test)(s:Sym)(l:List aP.Bind)(hn:l.length<=1000000)(ht:t.list.length<=1000000):au prog 278 [.agg t.pv,.agg s.pv,.list 4 fl (l.map Bind.pv)] (yl (met t s l)):=by
 refine au.of (Lh.c ?_);have no:met t s l=none->yl (met t s l) (wk (.az [.list 4 .nil [],pB false])):=λh=>⟨[],by rw[h];rfl,λl' e=>by rw[h]at e;cases e⟩;have yes:∀{q:Bool},met t s l=(if q=true then some l else none)->yl (met t s l) (wk (.az [.list 4 fl (l.map Bind.pv),pB q])):=λ{q} h=>by
  rw[h];cases q
  ·exact⟨l,rfl,λl' e=>by cases e⟩
  ·exact⟨l,rfl,λl' e=>by cases e;rfl⟩
 refine ab.mk (λh8=>?_) (λh8=>?_)
 ·have h8:t.rel=8:=by simpa using h8
  have hm:met t s l=if t.list.any (λx=>eU x s)=true then some l else none:=by rw[met,if_pos h8]
  refine ak.each (n:=t.list.length) (by omega) (λk u=>(t.list.take k).any (λx=>eU x s)=false) (by simp) ?_ ?_
  ·intro k u next hk hg av
   refine ab.t (by simpa using hk) ⟨by omega,_,aC hk,_,_,_,rfl,ab.mk (λhe=>?_) (λhe=>?_)⟩
   ·exact yes (q:=true) (by rw[hm,K_ (p:=λx=>eU x s) hk he])
   ·exact av _ (by rw[BN hk hg];exact he)
  ·intro u next hg
   refine ab.f (by simp) (no ?_);rw[take_length]at hg;rw[hm,hg];rfl
 ·have h8:¬t.rel=8:=by simpa using h8
  refine ab.mk (λh1=>no ?_) (λh1=>?_)
  ·rw[met,if_neg h8,if_pos (.inl (by simpa using h1))]
  ·refine ab.mk (λh7=>no ?_) (λh7=>?_)
   ·rw[met,if_neg h8,if_pos (.inr (by simpa using h7))]
   ·have hr:¬(t.rel<1\/t.rel>7):=by simp at h1 h7;omega
    refine ab.mk (λhv=>?_) (λhv=>?_)
    ·refine(SM t.rel s t.sym).call ⟨_,rfl,yes ?_⟩;rw[met,if_neg h8,if_neg hr,if_pos (bF.1 hv)]
    ·have hv:¬t.var=⟨#[]⟩:=pO.1 hv;refine(kj fl l hn t.var).call ?_;cases hg:gi l t.var with
     |some x=>
      refine⟨_,_,_,_,rfl,ab.t rfl ((SM t.rel s x).call ⟨_,rfl,yes ?_⟩)⟩;rw[met,if_neg h8,if_neg hr,if_neg hv,hg]
     |none=>
      refine⟨_,_,_,_,rfl,ab.f rfl (ab.mk (λh1=>no ?_) (λh1=>?_))⟩
      ·have h1:¬t.rel=1:=by simpa using h1
       rw[met,if_neg h8,if_neg hr,if_neg hv,hg];simp[h1]
      ·have h1:t.rel=1:=by simpa using h1
       refine⟨by omega,by omega,by omega,rfl,?_⟩;simp only[Int.toNat_zero,Int.toNat_natCast,take_length,drop_zero];refine aT.Pq (by trivial) (by simp;omega) (by simp;omega) λjZ μ' _=>⟨l++[⟨t.var,s⟩],?_,λl' e=>?_⟩
       ·rw[met,if_neg h8,if_neg hr,if_neg hv,hg];simp[h1,wk,bU,yW]
       ·rw[met,if_neg h8,if_neg hr,if_neg hv,hg]at e;simp[h1]at e;exact e
theorem pn(fl jZ:Fl)(ts:List Test)(s:Sym)(l:List aP.Bind)(hn:l.length+ts.length<=1000000)(ht:∀t∈ts,t.list.length<=1000000):au prog 279 [.list 6 fl (ts.map Test.pv),.agg s.pv,.list 4 jZ (l.map Bind.pv)] (yl (fT ts s l)):=by
 refine au.of (Li.c ?_);refine ak.dd (n:=ts.length) (by omega) (λk x u=>∃lk,fT (ts.take k) s l=some lk/\x.2=lk.map Bind.pv) ⟨l,rfl,rfl⟩ ?_ ?_
 ·rintro k ⟨xf,xr⟩ u next hk ⟨lk,Fj,rfl⟩ av
  have hkb:=nM Fj;rw[length_take]at hkb;refine ab.t (by simpa using hk) ⟨by omega,_,aC hk,_,_,_,_,_,_,_,rfl,?_⟩;refine(SH xf ts[k] s lk (by omega) (ht _ (getElem_mem hk))).call ?_;rintro _ ⟨l',rfl,Xd⟩;refine⟨_,_,_,rfl,?_⟩;cases hm:met ts[k] s lk with
  |none=>
   refine ab.t rfl ⟨[],?_,λl2 e=>?_⟩
   ·rw[xP (k+1) (by rw[rz hk Fj,hm])];rfl
   ·rw[xP (k+1) (by rw[rz hk Fj,hm])]at e;cases e
  |some l2=>
   have:=Xd l2 hm;subst this;exact ab.f rfl (av (_,_) _ ⟨l',by rw[rz hk Fj,hm],rfl⟩)
 ·rintro⟨xf,xr⟩ u next ⟨lk,Fj,rfl⟩
  rw[take_length]at Fj;exact ab.f (by simp) ⟨lk,by rw[Fj];rfl,λl2 e=>by rw[Fj]at e;cases e;rfl⟩
theorem KJ(fl:Fl)(l:List aP.Bind)(hn:l.length<=2000000):Pure prog 230 [.list 4 fl (l.map Bind.pv)] (.list 4 .sh (l.map Bind.pv)):=by
 refine au.of (Lg.c ?_);exact aT.Pq (by trivial) (by simp;omega) (by simp;omega) λjZ μ' _=>rfl
theorem SP(fa fv fc fl:Fl)(c:ae)(e:aj)(l:List aP.Bind)(hn:l.length+1+c.attr.length+c.value.length<=1000000)(ha:∀t∈c.attr,t.list.length<=1000000)(hv:∀t∈c.value,t.list.length<=1000000):
  Pure prog 232 [.agg [pI c.kind,pB c.goal,pS c.id,.list 6 fa (c.attr.map Test.pv),.list 6 fv (c.value.map Test.pv),pB c.acc,.list 7 fc (c.conds.map ae.pv)],.agg e.pv,.list 4 fl (l.map Bind.pv)] (aim (c_ c e l)):=by
 refine au.of (IM.c ?_);refine⟨λ_ u=>((c.kind=1\/c.kind=2)/\(c.goal=true->e.goal=true)/\c.acc=e.acc),?_,?_⟩
 ·repeat' (refine ab.mk (λh=>?_) (λh=>?_))
  all_goals first
   |(simp_all;done)
   |(rw[c_,if_neg (by simp_all)];rfl)
 ·rintro _ u hc;rw[c_,if_pos hc];refine(SH fl (jo c.id) e.id l (by omega) (by simp)).call ?_;rintro _ ⟨l1,rfl,h1⟩;refine⟨_,_,_,rfl,?_⟩;cases hm:met (jo c.id) e.id l with
  |none=>exact ab.t rfl rfl
  |some l1'=>
   obtain rfl:=h1 l1' hm;have g1:=vd hm;refine ab.f rfl ((pn fa _ c.attr e.attr l1 (by omega) ha).call ?_);rintro _ ⟨l2,rfl,h2⟩;refine⟨_,_,_,rfl,?_⟩;simp only[bind_some];cases sq:fT c.attr e.attr l1 with
   |none=>exact ab.t rfl rfl
   |some l2'=>
    obtain rfl:=h2 l2' sq;have g2:=nM sq;refine ab.f rfl ((pn fv _ c.value e.value l2 (by omega) hv).call ?_);rintro _ ⟨l3,rfl,h3⟩;refine⟨_,_,_,rfl,?_⟩;simp only[bind_some];cases W_:fT c.value e.value l2 with
    |none=>exact ab.t rfl rfl
    |some l3'=>
     obtain rfl:=h3 l3' W_;have g3:=nM W_;exact ab.f rfl ((KJ _ l3 (by omega)).call ⟨_,_,rfl,rfl⟩)
theorem VP(rel:Int)(a b:Sym):Pure prog 179 [pI rel,.agg a.pv,.agg b.pv] (pB (holds rel a b)):=by
 refine au.of (rN.c ?_);refine⟨λs u=>s=(a.k == 2&&b.k == 2),?_,?_⟩
 ·exact ab.mk (λh=>by simp[h]) (λh=>by simp[h])
 ·rintro s u rfl
  repeat' (refine ab.mk (λh=>?_) (λh=>?_))
  all_goals simp_all [holds,eU,wk,bU]
theorem ad5(fl:Fl)(l:List aP.Bind)(hn:l.length<=1000000)(v:ByteArray):Pure prog 177 [.list 4 fl (l.map Bind.pv),pS v] (adU (gi l v)):=by
 refine au.of (wg.c ?_);refine ak.each (n:=l.length) (by omega) (λk u=>gi (l.take k) v=none) (by simp[gi]) ?_ ?_
 ·intro k u next hk hg av
  refine ab.t (by simpa using hk) ⟨by omega,_,aC hk,_,rfl,ab.mk (λhe=>⟨by omega,_,aC hk,_,_,_,rfl,?_⟩) (λhe=>?_)⟩
  ·rw[Ie hk hg he];rfl
  ·exact av _ (by rw[xB hk hg,he];rfl)
 ·intro u next hg
  refine ab.f (by simp) ?_;rw[take_length]at hg;rw[hg];rfl
theorem aas{fl:Fl}{new:Lq}{μ:Mem}{size bytes:Nat}{K:Fl->Mem->Prop}(h:fl=.nil)(hb:new.length*bytes<=140737488355328)(pJ:new.length<4611686018427387904)(hK:∀jZ μ',Ow [e_ jZ new.length size] μ'->K jZ μ'):aT true size bytes fl [] new μ K:=by
 subst h;refine aT.Pq (h:=trivial) (by simpa using hb) (by simpa using pJ) (λjZ μ' h1=>hK jZ μ' (Ow.one ?_));simpa[e_]using h1
theorem ZU(fl:Fl)(l:List aP.Bind)(hn:l.length<=1000000)(v:ByteArray)(s:Sym):Pure prog 178 [.list 4 fl (l.map Bind.pv),pS v,.agg s.pv] (.list 4 .sh ((l++[(⟨v,s⟩:aP.Bind)]).map Bind.pv)):=by
 refine au.of (tZ.c ?_);have go:aT true 4 48 .nil [] (l.map Bind.pv) M0 λf8 u=>aT false 4 48 f8 ([]++l.map Bind.pv) [[pS v,pI s.k,pS s.t,pI s.n]] u λf13 qZ=>wk (.list 4 f13 (([]++l.map Bind.pv)++[[pS v,pI s.k,pS s.t,pI s.n]]))=.list 4 .sh ((l++[(⟨v,s⟩:aP.Bind)]).map Bind.pv):=
  aas rfl (by simp;omega) (by simp;omega) λf8 u hO=>Ow.app hO (by simp) (by simp;omega) (by simp;omega) λf13 u1 _=>by simp[wk,bU]
 exact⟨go,go⟩
theorem XB(fl fl2:Fl)(t:Test)(s:Sym)(l:List aP.Bind)(hn:l.length<=1000000)(ht:t.list.length<=1000000):au prog 114 [.agg [pI t.rel,pS t.var,pI t.sym.k,pS t.sym.t,pI t.sym.n,.list 3 fl2 (t.list.map Sym.pv)],.agg s.pv,.list 4 fl (l.map Bind.pv)] (yl (met t s l)):=by
 refine au.of (we.c ?_);have no:met t s l=none->yl (met t s l) (wk (.az [.list 4 .nil [],pB false])):=λh=>⟨[],by rw[h];rfl,λl' e=>by rw[h]at e;cases e⟩;have yes:met t s l=some l->yl (met t s l) (wk (.az [.list 4 fl (l.map Bind.pv),pB true])):=λh=>⟨l,by rw[h];rfl,λl' e=>by rw[h]at e;cases e;rfl⟩;refine ab.mk (λh8=>?_) (λh8=>?_)
 ·have h8:t.rel=8:=by simpa using h8
  have hm:met t s l=if t.list.any (λx=>eU x s)=true then some l else none:=by rw[met,if_pos h8]
  refine ak.each (n:=t.list.length) (by omega) (λk u=>(t.list.take k).any (λx=>eU x s)=false) (by simp) ?_ ?_
  ·intro k u next hk hg av
   refine ab.t (by simpa using hk) ⟨by omega,_,aC hk,_,_,_,rfl,ab.mk (λhe=>?_) (λhe=>?_)⟩
   ·exact yes (by rw[hm,K_ (p:=λx=>eU x s) hk he];rfl)
   ·exact av _ (by rw[BN hk hg];exact he)
  ·intro u next hg
   rw[take_length]at hg;exact ab.f (by simp) (no (by rw[hm,hg];rfl))
 ·have h8:t.rel≠8:=by simpa using h8
  refine ab.mk (λh1=>?_) (λh1=>ab.mk (λh7=>?_) (λh7=>?_))
  ·have h1:t.rel<1:=by simpa using h1
   exact no (by rw[met,if_neg h8,if_pos (.inl h1)])
  ·have h7:t.rel>7:=by simpa using h7
   exact no (by rw[met,if_neg h8,if_pos (.inr h7)])
  ·have h17:¬(t.rel<1\/t.rel>7):=by simp at h1 h7;omega
   refine⟨λx u=>(t.var=⟨#[]⟩/\(⟨x.1,x.2.1,x.2.2⟩:Sym)=t.sym)\/(t.var≠⟨#[]⟩/\gi l t.var=some ⟨x.1,x.2.1,x.2.2⟩),?_,?_⟩
   ·refine ab.mk (λhv=>?_) (λhv=>.inl ⟨bF.1 (by simpa using hv),rfl⟩);have hv:t.var≠⟨#[]⟩:=pO.1 (by simpa using hv);refine(ad5 fl l hn t.var).call ?_;cases hg:gi l t.var with
    |some x=>exact⟨_,_,_,_,rfl,ab.f rfl (.inr ⟨hv,rfl⟩)⟩
    |none=>
     refine⟨_,_,_,_,rfl,ab.t rfl (ab.mk (λhr=>?_) (λhr=>?_))⟩
     ·have hr:t.rel≠1:=by simpa using hr
      exact no (by rw[met,if_neg h8,if_neg h17,if_neg hv,hg];exact if_neg hr)
     ·have hr:t.rel=1:=by simpa using hr
      have hm:met t s l=some (l++[⟨t.var,s⟩]):=by rw[met,if_neg h8,if_neg h17,if_neg hv,hg];exact if_pos hr
      refine(ZU fl l hn t.var s).call ⟨_,_,rfl,?_⟩;exact⟨_,by rw[hm];rfl,λl' e=>by rw[hm]at e;cases e;rfl⟩
   ·rintro⟨x1,x2,x3⟩ u hx;have hm:met t s l=if holds t.rel s ⟨x1,x2,x3⟩=true then some l else none:=by
     rw[met,if_neg h8,if_neg h17];rcases hx with⟨hv,e⟩|⟨hv,e⟩
     ·rw[if_pos hv,<- e]
     ·rw[if_neg hv,e]
    refine(VP t.rel s ⟨x1,x2,x3⟩).call ⟨_,rfl,ab.mk (λh=>?_) (λh=>?_)⟩
    ·exact no (by rw[hm,if_neg (by simpa using h)])
    ·exact yes (by rw[hm,if_pos (by simpa using h)])
theorem Is(fl jZ:Fl)(ts:List Test)(s:Sym)(l:List aP.Bind)(hn:l.length+ts.length<=1000000)(ht:∀t∈ts,t.list.length<=1000000):au prog 115 [.list 6 fl (ts.map Test.pv),.agg s.pv,.list 4 jZ (l.map Bind.pv)] (yl (fT ts s l)):=by
 refine au.of (rM.c ?_);refine ak.dd (n:=ts.length) (by omega) (λk x u=>∃lk:List aP.Bind,x.2=lk.map Bind.pv/\fT (ts.take k) s l=some lk/\lk.length<=l.length+k) ⟨l,rfl,rfl,le_refl _⟩ ?_ ?_
 ·rintro k ⟨f,_⟩ u next hk ⟨lk,rfl,Fj,hlen⟩ av
  have Ja:=rz hk Fj;refine ab.t (by simpa using hk) ⟨by omega,_,aC hk,_,_,_,_,_,_,_,rfl,?_⟩;refine au.call (XB f .sh ts[k] s lk (by omega) (ht _ (getElem_mem hk))) λp hp=>?_;obtain⟨l2,rfl,h2⟩:=hp;refine⟨_,_,_,rfl,ab.mk (λh=>?_) (λh=>?_)⟩
  ·have cQ:met ts[k] s lk=none:=by
    cases hm:met ts[k] s lk with
    |none=>rfl
    |some r=>rw[hm]at h;simp at h
   have:fT ts s l=none:=xP (k+1) (by rw[Ja,cQ]);exact⟨[],by rw[this];rfl,λl' e=>by rw[this]at e;cases e⟩
  ·cases hm:met ts[k] s lk with
   |none=>rw[hm]at h;simp at h
   |some r=>
    have e:=h2 r hm;subst e;have:=vd hm;exact av _ _ ⟨l2,rfl,by rw[Ja,hm],by omega⟩
 ·rintro⟨f,_⟩ u next ⟨lk,rfl,Fj,_⟩
  rw[take_length]at Fj;exact ab.f (by simp) ⟨lk,by rw[Fj];rfl,λl' e=>by rw[Fj]at e;cases e;rfl⟩
theorem VQ(fa fv fc fl:Fl)(c:ae)(e:aj)(l:List aP.Bind)(hn:l.length+1+c.attr.length+c.value.length<=1000000)(ha:∀t∈c.attr,t.list.length<=1000000)(hv:∀t∈c.value,t.list.length<=1000000):
  au prog 51 [.agg [pI c.kind,pB c.goal,pS c.id,.list 6 fa (c.attr.map Test.pv),.list 6 fv (c.value.map Test.pv),pB c.acc,.list 7 fc (c.conds.map ae.pv)],.agg e.pv,.list 4 fl (l.map Bind.pv)] (yl (c_ c e l)):=by
 refine au.of (ub.c ?_);have no:c_ c e l=none->yl (c_ c e l) (wk (.az [.list 4 .nil [],pB false])):=λh=>⟨[],by rw[h];rfl,λl' e'=>by rw[h]at e';cases e'⟩;refine⟨λ_ u=>(c.kind=1\/c.kind=2)/\(c.goal=true->e.goal=true)/\c.acc=e.acc,?_,?_⟩
 ·have rest:(c.kind=1\/c.kind=2)->∀u:Mem,ab c.goal
    (ab (!e.goal) (yl (c_ c e l) (wk (.az [.list 4 .nil [],pB false]))) (ab (!(c.acc == e.acc)) (yl (c_ c e l) (wk (.az [.list 4 .nil [],pB false]))) ((c.kind=1\/c.kind=2)/\(c.goal=true->e.goal=true)/\c.acc=e.acc)))
    (ab (!(c.acc == e.acc)) (yl (c_ c e l) (wk (.az [.list 4 .nil [],pB false]))) ((c.kind=1\/c.kind=2)/\(c.goal=true->e.goal=true)/\c.acc=e.acc)):=λhk u=>by
   refine ab.mk (λg=>ab.mk (λg2=>no ?_) (λg2=>ab.mk (λg3=>no ?_) (λg3=>⟨hk,λ_=>by simpa using g2,by simpa using g3⟩))) (λg=>ab.mk (λg3=>no ?_) (λg3=>⟨hk,(λh=>by rw[g]at h;cases h),by simpa using g3⟩))
   ·rw[c_,if_neg];rintro⟨_,h,_⟩;simp[h g]at g2
   ·rw[c_,if_neg];rintro⟨_,_,h⟩;simp[h]at g3
   ·rw[c_,if_neg];rintro⟨_,_,h⟩;simp[h]at g3
  refine ab.mk (λk1=>ab.mk (λk2=>no ?_) (λk2=>rest (.inr (by simpa using k2)) M0)) (λk1=>rest (.inl (by simpa using k1)) M0);rw[c_,if_neg];rintro⟨h|h,_⟩
  ·rw[h]at k1;simp at k1
  ·rw[h]at k2;simp at k2
 ·rintro _ u hc;have oB:c_ c e l=(met (jo c.id) e.id l).bind λl1=>(fT c.attr e.attr l1).bind λl2=>fT c.value e.value l2:=if_pos hc;refine au.call (XB fl .sh (jo c.id) e.id l (by omega) (by simp)) λp hp=>?_;obtain⟨l1,rfl,h1⟩:=hp;refine⟨_,_,_,rfl,ab.mk (λh=>no ?_) (λh=>?_)⟩
  ·cases hm:met (jo c.id) e.id l with
   |none=>rw[oB,hm];rfl
   |some r=>rw[hm]at h;simp at h
  ·cases hm:met (jo c.id) e.id l with
   |none=>rw[hm]at h;simp at h
   |some r1=>
    have e1:=h1 r1 hm;subst e1;have zb:=vd hm;refine au.call (Is fa .sh c.attr e.attr l1 (by omega) ha) λp hp=>?_;obtain⟨l2,rfl,h2⟩:=hp;refine⟨_,_,_,rfl,ab.mk (λh=>no ?_) (λh=>?_)⟩
    ·cases sq:fT c.attr e.attr l1 with
     |none=>rw[oB,hm];show(fT c.attr e.attr l1).bind _=none;rw[sq];rfl
     |some r=>rw[sq]at h;simp at h
    ·cases sq:fT c.attr e.attr l1 with
     |none=>rw[sq]at h;simp at h
     |some r2=>
      have e2:=h2 r2 sq;subst e2;have tB:=nM sq;have Rz:c_ c e l=fT c.value e.value l2:=by rw[oB,hm];show(fT c.attr e.attr l1).bind _=_;rw[sq];rfl
      refine au.call (Is fv .sh c.value e.value l2 (by omega) hv) λp hp=>?_;obtain⟨l3,rfl,h3⟩:=hp;exact⟨_,_,_,rfl,l3,by rw[Rz];rfl,λl' e'=>h3 l' (by rw[<- Rz];exact e')⟩
end Go.Proofs.YtbodiiomcfgokaaGreat
namespace Go.aP
open Go.RowKit
theorem acm{lo hi:Nat}(h:lo<hi)(hn:hi<4611686018427387904):wrap .i64 ((lo:Int)+wrap .i64 (Int.tdiv (wrap .i64 ((hi:Int)-(lo:Int))) 2))=((lo+(hi-lo)/2:Nat):Int):=by
 have e1:wrap .i64 ((hi:Int)-(lo:Int))=((hi-lo:Nat):Int):=by rw[aD (by omega) (by omega)];omega
 rw[e1];have e2:Int.tdiv ((hi-lo:Nat):Int) 2=(((hi-lo)/2:Nat):Int):=by
  rw[Int.tdiv_eq_ediv_of_nonneg (by omega)];omega
 rw[e2,aD (x:=(((hi-lo)/2:Nat):Int)) (by omega) (by omega),aD (by omega) (by omega)];omega
theorem ak.bin{body:(Int×Int->Mem->Prop)->Int×Int->Mem->Prop}{u:Mem}{n:Nat}(hn:n<4611686018427387904)(c:Nat->Int)(A:Mem->Prop)(h0:A u)
  (m1:∀i j,i<j->j<n->c j<=0->c i<0) (m2:∀i j,i<j->j<n->0<=c i->0<c j)
  (fE:∀(lo hi wF:Nat) (u:Mem) (next:Int×Int->Mem->Prop),lo<hi->hi<=n->wF=lo+(hi-lo)/2->wF<n->A u->(c wF<0->∀u',A u'->next (((wF+1:Nat):Int),(hi:Int)) u')->(0<c wF->∀u',A u'->next ((lo:Int),(wF:Int)) u')->(c wF=0->∀i,i<wF->c i<0)->body next ((lo:Int),(hi:Int)) u)
  (eZ:∀(k:Nat) (u:Mem) (next:Int×Int->Mem->Prop),A u->k<=n->(∀i,i<k->c i<0)->(∀i,k<=i->i<n->0<c i)->body next ((k:Int),(k:Int)) u):ak body (0,(n:Int)) u:=by
 refine⟨λm s w=>∃lo hi:Nat,s=((lo:Int),(hi:Int))/\lo<=hi/\hi<=n/\m=hi-lo/\A w/\(∀i,i<lo->c i<0)/\(∀i,hi<=i->i<n->0<c i),⟨n,0,n,rfl,by omega,le_refl _,by omega,h0,λi hi=>by omega,λi h1 h2=>by omega⟩,?_⟩;rintro m s w ⟨lo,hi,rfl,hle,hhi,rfl,hA,h1,h2⟩;by_cases bI:lo<hi
 ·refine fE lo hi (lo+(hi-lo)/2) w _ bI hhi rfl (by omega) hA (λhc u' hu=>⟨hi-(lo+(hi-lo)/2+1),by omega,_,hi,rfl,by omega,hhi,rfl,hu,λi tD=>?_,h2⟩) (λhc u' hu=>⟨(lo+(hi-lo)/2)-lo,by omega,lo,_,rfl,by omega,by omega,rfl,hu,h1,λi Pm Kn=>?_⟩) (λhc i tD=>m1 i _ tD (by omega) (by omega))
  ·by_cases e:i=lo+(hi-lo)/2
   ·subst e;exact hc
   ·exact m1 i (lo+(hi-lo)/2) (by omega) (by omega) (by omega)
  ·by_cases e:i=lo+(hi-lo)/2
   ·subst e;exact hc
   ·exact m2 (lo+(hi-lo)/2) i (by omega) Kn (by omega)
 ·have:lo=hi:=by omega
  subst this;exact eZ lo w _ hA hhi h1 h2
structure m_{T:Type}(c:T->T->Int):Prop where
 zero:∀a b,c a b=0↔a=b
 flip:∀a b,c a b<0↔0<c b a
 trans:∀a b d,c a b<0->c b d<0->c a d<0
def Up{T:Type}(c:T->T->Int)(L:List T):Prop:=L.Pairwise λa b=>c a b<0
theorem Up.lt{T:Type}{c:T->T->Int}{L:List T}(h:Up c L){i j:Nat}(hi:i<j)(hj:j<L.length):c (L[i]'(lt_trans hi hj)) L[j]<0:=List.pairwise_iff_getElem.1 h i j _ hj hi
structure bP{T:Type}(c:T->T->Int)(L:List T)(x:T)(k:Nat)(there:Bool):Prop where
 le:k<=L.length
 low:∀(i:Nat) (h:i<L.length),i<k->c L[i] x<0
 Oc:there=true->∃h:k<L.length,L[k]=x
 EY:there=false->∀(i:Nat) (h:i<L.length),k<=i->0<c L[i] x
theorem bP.mem{T:Type}{c:T->T->Int}(hc:m_ c){L:List T}{x:T}{k:Nat}{there:Bool}(h:bP c L x k there):there=true↔x∈L:=by
 refine⟨λht=>?_,λhx=>?_⟩
 ·obtain⟨hk,e⟩:=h.Oc ht;rw[<- e];exact getElem_mem hk
 ·cases there with
  |true=>rfl
  |false=>
   obtain⟨i,hi,e⟩:=List.mem_iff_getElem.1 hx;have hz:c L[i] x=0:=(hc.zero _ _).2 e;by_cases hk:i<k
   ·have:=h.low i hi hk;omega
   ·have:=h.EY rfl i hi (by omega);omega
theorem bP.put{T:Type}{c:T->T->Int}(hc:m_ c){L:List T}{x:T}{k:Nat}(h:bP c L x k false)(hu:Up c L):Up c (L.take k++x::L.drop k):=by
 have gd:L.Pairwise λa b=>c a b<0:=hu;rw[<- take_append_drop k L,List.pairwise_append]at gd;refine List.pairwise_append.2 ⟨gd.1,List.pairwise_cons.2 ⟨λb hb=>?_,gd.2.1⟩,λa ha b hb=>?_⟩
 ·obtain⟨i,hi,e⟩:=List.mem_iff_getElem.1 hb;rw[List.getElem_drop]at e;rw[<- e];exact(hc.flip _ _).2 (h.EY rfl _ _ (by omega))
 ·rcases mem_cons.1 hb with rfl|hb
  ·obtain⟨i,hi,e⟩:=List.mem_iff_getElem.1 ha;rw[List.getElem_take]at e;rw[<- e];exact h.low _ _ (by simp at hi;omega)
  ·exact gd.2.2 a ha b hb
theorem bP.YI{T:Type}{L:List T}{x y:T}{k:Nat}:y∈L.take k++x::L.drop k↔y=x\/y∈L:=by
 rw[mem_append,mem_cons];have e:y∈L↔y∈L.take k\/y∈L.drop k:=by rw[<- mem_append,take_append_drop]
 rw[e];constructor
 ·rintro(h|h|h)
  ·exact .inr (.inl h)
  ·exact .inl h
  ·exact .inr (.inr h)
 ·rintro(h|h|h)
  ·exact .inr (.inl h)
  ·exact .inl h
  ·exact .inr (.inr h)
theorem Up.WI{T:Type}{c:T->T->Int}(hc:m_ c){L:List T}(hu:Up c L){x:T}{i j:Nat}(hi:i<j)(hj:j<L.length)(h:c L[j] x<=0):c (L[i]'(lt_trans hi hj)) x<0:=by
 have h1:=hu.lt hi hj;by_cases h0:c L[j] x=0
 ·rw[(hc.zero _ _).1 h0]at h1;exact h1
 ·exact hc.trans _ _ _ h1 (by omega)
theorem Up.WH{T:Type}{c:T->T->Int}(hc:m_ c){L:List T}(hu:Up c L){x:T}{i j:Nat}(hi:i<j)(hj:j<L.length)(h:0<=c (L[i]'(lt_trans hi hj)) x):0<c L[j] x:=by
 have h1:=hu.lt hi hj;by_cases h0:c (L[i]'(lt_trans hi hj)) x=0
 ·rw[(hc.zero _ _).1 h0]at h1;exact(hc.flip _ _).1 h1
 ·have h2:c x (L[i]'(lt_trans hi hj))<0:=(hc.flip _ _).2 (by omega);exact(hc.flip _ _).1 (hc.trans _ _ _ h2 h1)
theorem vg:∀a:List UInt8,Op.bytesLess a a=false
 |[]=>rfl
 |x::a=>by simp[Op.bytesLess,vg a]
theorem tt:∀{a b d:List UInt8},Op.bytesLess a b=true->Op.bytesLess b d=true->Op.bytesLess a d=true
 |[],[],_,h,_=>by simp[Op.bytesLess]at h
 |[],_::_,[],_,h=>by simp[Op.bytesLess]at h
 |[],_::_,_::_,_,_=>rfl
 |_::_,[],_,h,_=>by simp[Op.bytesLess]at h
 |_::_,_::_,[],_,h=>by simp[Op.bytesLess]at h
 |x::a,y::b,z::d,h,k=>by
  simp only[Op.bytesLess,Bool.or_eq_true,Bool.and_eq_true,decide_eq_true_eq,beq_iff_eq]at h k |-
  rcases h with h|⟨rfl,h⟩
  ·rcases k with k|⟨rfl,k⟩
   ·exact .inl (UInt8.lt_trans h k)
   ·exact .inl h
  ·rcases k with k|⟨rfl,k⟩
   ·exact .inl k
   ·exact .inr ⟨rfl,tt h k⟩
theorem AZ:∀a b:List UInt8,Op.bytesLess a b=true\/a=b\/Op.bytesLess b a=true
 |[],[]=>.inr (.inl rfl)
 |[],_::_=>.inl rfl
 |_::_,[]=>.inr (.inr rfl)
 |x::a,y::b=>by
  simp only[Op.bytesLess,Bool.or_eq_true,Bool.and_eq_true,decide_eq_true_eq,beq_iff_eq,List.cons.injEq]
  rcases UInt8.lt_or_lt_of_ne (a:=x) (b:=y) |> λh=>(Classical.em (x=y))with e|e
  ·subst e
   rcases AZ a b with h|h|h
   ·exact .inl (.inr ⟨rfl,h⟩)
   ·exact .inr (.inl ⟨rfl,h⟩)
   ·exact .inr (.inr (.inr ⟨rfl,h⟩))
  ·rcases UInt8.lt_or_lt_of_ne e with h|h
   ·exact .inl (.inl h)
   ·exact .inr (.inr (.inl h))
def bE(a b:ByteArray):Int:=bif Op.bytesLess a.toList b.toList then -1 else bif !(Op.bytesLess a.toList b.toList||aF a b)then 1 else 0
theorem lT{a b:ByteArray}:bE a b<0↔Op.bytesLess a.toList b.toList=true:=by
 unfold bE;cases Op.bytesLess a.toList b.toList<;>cases aF a b<;>simp
theorem xH{a b:ByteArray}:bE a b=0↔a=b:=by
 unfold bE;rw[<- bF];cases h:Op.bytesLess a.toList b.toList
 ·cases aF a b<;>simp
 ·have:aF a b=false:=by
   cases hs:aF a b with
   |false=>rfl
   |true=>rw[bF.1 hs,vg]at h;cases h
  simp[this]
theorem Sn{a b:ByteArray}:0<bE a b↔Op.bytesLess b.toList a.toList=true:=by
 have e:0<bE a b↔¬bE a b<0/\¬bE a b=0:=by omega
 rw[e,lT,xH];constructor
 ·rintro⟨h1,h2⟩;rcases AZ a.toList b.toList with h|h|h
  ·exact absurd h h1
  ·exact absurd (bF.1 (by unfold aF;rw[h];simp)) h2
  ·exact h
 ·intro h;refine⟨λh1=>?_,λh1=>?_⟩
  ·have:=tt h h1;rw[vg]at this;cases this
  ·rw[h1,vg]at h;cases h
theorem cJ:m_ bE:=⟨λa b=>xH,λa b=>by rw[lT,Sn],λa b d h1 h2=>lT.2 (tt (lT.1 h1) (lT.1 h2))⟩
end Go.aP
