import Derived.Test.YtdiimonfmdbclaaPvE
/-
  V is sound: operations with memory.
-/
namespace Go.Eng
open Go.RowKit
set_option linter.unusedVariables false

/-- What V's soundness hands on. -/
def Cont (q : Bool) (Z : Fz) (μ : Mem) (u : UW) (KP : PSt → Mem → Prop) (K : St → UW → Prop) : Prop :=
  ∀ (Z' : Fz) (p' : PSt) (μ' : Mem) (s' : St) (u' : UW), Rel2 Z' p' s' → Good Z' u' μ' → Wf u' → Ext Z μ u.heap.size Z' μ' → u.heap.size ≤ u'.heap.size → (q = true → Below u.heap.size u.toWorld u'.toWorld) → KP p' μ' → K s' u'

theorem allPlain_of {Z : Fz} {ps : List PV} {vs : List Value} (h : RepC Z ps vs) : allPlain vs = true := by
  refine List.all_eq_true.2 fun v hv => ?_
  obtain ⟨h1, h2⟩ := h.plains v hv
  simp [h1, h2]

theorem rdM_rep {Z : Fz} {u : UW} {μ : Mem} (hg : Good Z u μ) {b o n : Nat} {ps : List PV} (h : rdM μ b o n = some ps) : ∃ vs, rd u.heap b o n = some vs ∧ RepM Z ps vs := by
  unfold rdM at h
  split at h
  · rename_i T cs hm
    obtain ⟨_, _, A, hA, hc⟩ := hg.mem b _ hm
    have hAs : A.size = cs.length := by have := hc.1; simpa using this
    split at h
    · rename_i hl
      cases h
      exact ⟨_, rd_of hA (by omega), (hc.drop o).take n⟩
    · cases h
  · rename_i T cs hm
    obtain ⟨_, _, A, hA, hc⟩ := hg.mem b _ hm
    have hAs : A.size = cs.length := by have := hc.1; simpa using this
    split at h
    · rename_i hl
      cases h
      exact ⟨_, rd_of hA (by omega), (hc.drop o).take n⟩
    · cases h
  · cases h

theorem load_sound {E : EnvP} {q : Bool} {fz : List Nat} {o : Oper} {p : PSt} {s : St} {μ : Mem} {u : UW} {KP : PSt → Mem → Prop} {K : St → UW → Prop} {Z Zr : Fz} (hr : Rel2 Z p s) (hg : Good Zr u μ) (hz : Zr.le Z) (hf : frzLoad p o = false ∨ Good Z u μ)
    (hl : isLoadO o = true) (hK : ∀ p' s', Rel2 Z p' s' → KP p' μ → K s' u) (h : V1 E q fz o p μ KP) : W1 E.er fz o s u K := by
  unfold isLoadO at hl
  unfold V1 at h
  unfold W1
  simp only at h ⊢
  cases hop : o.op <;> simp only [hop] at h hl ⊢ <;> first | (cases hl; done) | skip
  rename_i t x
  cases hk : kindsV E.P (rawO E o) t with
  | none => rw [hk] at h; exact h.elim
  | some ks =>
    rw [hk] at h
    have hk' : kinds E.er.P t = some (ks.map KV.er) := kindsV_er hk
    rw [hk']
    simp only at h ⊢
    rw [List.length_map]
    have hx := hr.ev x
    split at h
    · rename_i k off he
      rw [he] at hx; rw [hx.ofBox]
      simp only
      rw [← hr.D]
      split at h
      · rename_i m hm
        rw [hm]
        simp only
        obtain ⟨hc, h⟩ := bif_elim h
        simp only [Bool.and_eq_true] at hc
        have hrep := (RepF.rdG (k := k) hr.slot ks.length off).c hc.2
        rw [hc.1, allPlain_of hrep]
        simp only [Bool.and_self, cond_true]
        exact hK _ _ (hr.fin o (mk_rep hrep)) h
      · exact h.elim
    · rename_i row off he
      have hg' : Good Z u μ := by
        rcases hf with hf | hf
        · unfold frzLoad at hf; simp only [hop, he] at hf; cases hf
        · exact hf
      rw [he] at hx
      obtain ⟨b, of, C, g, hv, hzb, hgg, hkk, hp⟩ := hx.ofFptr
      rw [hv]
      show withPtr (.pointer (some ⟨b, of + off, none⟩)) _
      unfold withPtr
      simp only
      obtain ⟨ps, hlen, hc, ⟨hrow, h⟩, hex⟩ := exLV_elim (Z := Z) h
      unfold rowM at hrow
      split at hrow
      · rename_i hb
        simp only [Option.some.injEq] at hrow
        obtain ⟨A, T, f, hA, hpre⟩ := hg'.zok b C hzb
        have hCl : of + row.length ≤ C.length := by
          have := hgg (row.length - 1) (by omega)
          have := (List.getElem?_eq_some_iff.1 this).1
          omega
        obtain ⟨tl, ht⟩ := hpre
        have hAl : A.size = C.length + tl.length := by have := congrArg List.length ht; simpa using this.symm
        have hrd := rd_of (H := u.heap) (o := of + off) (n := ks.length) hA (by omega)
        have hrep : RepC Z ps ((A.toList.drop (of + off)).take ks.length) := by
          rw [← hrow, ← ht]
          refine ⟨by simp; omega, fun i pp v hpp hvv => ?_⟩
          rw [List.getElem?_take] at hpp hvv
          split at hpp
          · rename_i hi
            rw [if_pos hi, List.getElem?_drop, List.getElem?_append_left (by omega)] at hvv
            rw [List.getElem?_drop] at hpp
            have := hgg (off + i) (by omega)
            rw [Nat.add_assoc] at hvv
            rw [this] at hvv
            cases hvv
            exact ⟨hkk _ _ hpp, hp _ _ hpp⟩
          · cases hpp
        exact hex (G := fun vs => rd u.heap b (of + off) ks.length = some vs ∧ K (fin o s (mkV (aggT E.er.P t) vs)) u) hrep.m ⟨hrd, hK _ _ (hr.fin o (mk_rep hrep)) h⟩
      · cases hrow
    · unfold withPtrP at h
      split at h
      · rename_i b off he
        rw [he] at hx
        rw [hx.ofRaw.1]
        show withPtr (.pointer (some ⟨b, off, none⟩)) _
        unfold withPtr
        simp only
        obtain ⟨ps, hlen, hc, ⟨hrd, h⟩, hex⟩ := exLV_elim (Z := Z) h
        obtain ⟨vs, hv, hm⟩ := rdM_rep hg hrd
        have hrep := (hm.mono hz).c hc
        exact hex (G := fun vs => rd u.heap b off ks.length = some vs ∧ K (fin o s (mkV (aggT E.er.P t) vs)) u) hrep.m ⟨hv, hK _ _ (hr.fin o (mk_rep hrep)) h⟩
      · exact h.elim

section
variable {E : EnvP} {q : Bool} {fz : List Nat} {o : Oper} {p : PSt} {s : St} {μ : Mem} {u : UW} {KP : PSt → Mem → Prop} {K : St → UW → Prop} {Z : Fz}

theorem born_below {b : Nat} {w' : World} {ob : Obj} (hB : Born u.toWorld w' b ob) : Below u.heap.size u.toWorld (u.born b w').toWorld := hB.below

theorem newB_sound (hr : Rel2 Z p s) (hg : Good Z u μ) (hw : Wf u) (hK : Cont q Z μ u KP K) {t : TypeId} {cs : List PV} {A : Array Value} (hA : RepC Z cs A.toList) (h : newB E q fz o p μ t cs KP) :
    (match o.dst with
      | none => False
      | some k => bif memN E.er.priv k then
          (bif !isBox s.D k && !memN fz k && allPlain A.toList && Nat.ble A.size 65536 then
            K { s with σ := wrG (upd s.σ k (fake k 0)) k 0 A.toList, D := (k, A.size) :: s.D } u else False)
        else ∀ (b : Nat) (w' : World), Born u.toWorld w' b (.cells A t (0, 0)) → K (fin o s (.pointer (some ⟨b, 0, none⟩))) (u.born b w')) := by
  unfold newB at h
  have hAs : A.size = cs.length := by have := hA.1; simpa using this
  cases hd : o.dst with
  | none => rw [hd] at h; exact h.elim
  | some k =>
    rw [hd] at h
    simp only at h ⊢
    cases hpv : memN E.priv k with
    | true =>
      have hpv' : memN E.er.priv k = true := hpv
      rw [hpv] at h; rw [hpv']
      simp only [cond_true] at h ⊢
      obtain ⟨hc, h⟩ := bif_elim h
      simp only [Bool.and_eq_true] at hc
      obtain ⟨hq, ⟨⟨h1, h2⟩, h3⟩, h4⟩ := hc
      have hc' : (!isBox s.D k && !memN fz k && allPlain A.toList && Nat.ble A.size 65536) = true := by
        rw [← hr.D, h1, h2, allPlain_of hA, hAs, h4]; rfl
      rw [hc']
      simp only [cond_true]
      refine hK Z { p with σ := wrGP (updP p.σ k (.box k 0)) k 0 cs, D := (k, cs.length) :: p.D } μ _ u ⟨?_, RepF.wrG (RepF.upd hr.slot (.box k 0)) hA.m⟩ hg hw hg.ext (Nat.le_refl _) (fun _ => Below.refl _ _) h
      simp [hr.D, hAs]
    | false =>
      have hpv' : memN E.er.priv k = false := hpv
      rw [hpv] at h; rw [hpv']
      simp only [cond_false] at h ⊢
      intro b w' hB
      cases hcst : memN E.cst k with
      | true =>
        rw [hcst] at h
        simp only [cond_true] at h
        obtain ⟨_, h⟩ := bif_elim h
        obtain ⟨g1, g2⟩ := hg.bornF hB
        refine hK _ _ μ _ _ ((hr.mono g2.le).fin o ?_) g1 (hw.born hB) g2 hB.below.size (fun _ => hB.below) h
        have hA' := (hA.mono g2.le).wk
        have hl : (cs.map wk1).length = A.toList.length := by simp [hAs]
        have := Rep.fptr (Z := Z.set b A.toList) (cs.map wk1) 0 b 0 A.toList (fun j => (A.toList[j]?).getD undef) (Fz.set_same _ _ _) (fun j hj => by
          rw [Nat.zero_add, List.getElem?_eq_getElem (by omega)]; rfl) (fun j pp hj => (hA'.get hj).choose_spec.2.1) (fun j pp hj => by
          obtain ⟨v, h1, h2, h3⟩ := hA'.get hj
          simp only [h1]; exact h3)
        exact this
      | false =>
        rw [hcst] at h
        simp only [cond_false] at h
        obtain ⟨g1, g2, g3⟩ := hg.born hB hA.m
        exact hK Z _ _ _ _ (hr.fin o (.raw _ rfl rfl)) g1 (hw.born hB) g2 hB.below.size (fun _ => hB.below) (h b g3)

theorem CallF.mono' {P : Program} {f : FuncId} {args : Array Value} {u : UW} {K K' : Value → UW → Prop} (h : CallF P f args u K)
    (hk : ∀ v lo w', Mod u.pub u.toWorld w' → u.heap.size ≤ lo → K v (u.ret lo w') → K' v (u.ret lo w')) : CallF P f args u K' := by
  obtain ⟨F, hF, h⟩ := h
  exact ⟨F, hF, h.mono fun v lo w' hm hl hK => hk v lo w' ⟨hm.os, hm.tape, hm.output, hm.size, fun b hb hn => hm.keep b hb fun hf => hn (hF b hf)⟩ hl hK⟩

theorem CallVP.v {P : Program} {f : PV} {args : List PV} {KP : PV → Mem → Prop} {fv : Value} {vs : List Value} (hg : Good Z u μ) (hw : Wf u) (hf : Rep Z f fv) (ha : Reps Z args vs) (h : CallVP P f args μ KP) :
    CallV P fv vs u fun v u' => ∃ Z' μ' p, Ext Z μ u.heap.size Z' μ' ∧ Good Z' u' μ' ∧ Rep Z' p v ∧ KP p μ' := by
  unfold CallVP at h
  split at h
  · rename_i g first caps
    obtain ⟨fv', cv', rfl, h1, h2⟩ := hf.ofFn
    obtain ⟨hc, hcall⟩ := h Z u (fv' ++ vs ++ cv') hg hw ((h1.append ha).append h2)
    show (bif callable P g then CallF P g (fv'.toArray.toList ++ vs ++ cv'.toArray.toList).toArray u _ else False)
    rw [hc]
    exact hcall
  · exact h Z u fv vs hg hw hf ha

/-- What a call hands on. -/
def ContV (q : Bool) (Z : Fz) (μ : Mem) (u : UW) (KP : PV → Mem → Prop) (K : Value → UW → Prop) : Prop :=
  ∀ (Z' : Fz) (μ' : Mem) (p : PV) (v : Value) (u' : UW), Ext Z μ u.heap.size Z' μ' → Good Z' u' μ' → Wf u' → u.heap.size ≤ u'.heap.size → (q = true → Below u.heap.size u.toWorld u'.toWorld) → Rep Z' p v → KP p μ' → K v u'

theorem CallQ.f {P : Program} {g : FuncId} {args : List PV} {KP : PV → Mem → Prop} {vs : List Value} {K : Value → UW → Prop} (hg : Good Z u μ) (hw : Wf u) (ha : Reps Z args vs) (h : CallQ P g args μ fun p μ' => KP p (μ.or μ')) (hK : ContV true Z μ u KP K) :
    callable P g = true ∧ CallF P g vs.toArray u K := by
  obtain ⟨hc, F, hF, hcall⟩ := h Z u vs hg hw ha
  refine ⟨hc, F, fun b hb => (hF b hb).elim, hcall.mono fun v lo w' hm hl hp => ?_⟩
  obtain ⟨Z', μ', p, e, g', hr, hk⟩ := hp
  have hB : Below u.heap.size u.toWorld w' := ⟨hm.os, hm.tape, hm.output, hm.size, fun b hb => hm.keep b hb fun hf => hF b hf⟩
  have hZ : ∀ b, b < u.heap.size → Z' b = Z b := fun b hb => by
    cases hz : Z b with
    | some C => exact e.zs b C hz rfl
    | none =>
      cases hz' : Z' b with
      | none => rfl
      | some C =>
        rcases e.zn b (by rw [hz']; simp) with h1 | h1 | h1
        · exact absurd hz h1
        · exact absurd rfl h1
        · omega
  refine hK Z' (μ.or μ') p v (u.ret lo w') ⟨e.le, fun b C h1 _ => e.zs b C h1 rfl, fun b h1 => ?_, fun b h1 => ?_, e.lt⟩ ⟨g'.zok, fun b ob hb => ?_⟩ (hw.ret hm.size) hm.size (fun _ => hB) hr hk
  · rcases e.zn b h1 with h2 | h2 | h2
    · exact .inl h2
    · exact absurd rfl h2
    · exact .inr (.inr h2)
  · unfold Mem.or at h1
    cases hm' : μ b with
    | some x => exact .inl (by simp)
    | none =>
      rw [hm'] at h1
      rcases e.mn b h1 with h2 | h2
      · exact absurd rfl h2
      · exact .inr h2
  · unfold Mem.or at hb
    cases hm' : μ b with
    | some x =>
      rw [hm'] at hb
      simp only [Option.some.injEq] at hb
      subst hb
      obtain ⟨p1, p2⟩ := hg.mem b x hm'
      exact ⟨fun hr => .inl (p1 hr), p2.go e.le (hZ b p2.lt) (hB.block b p2.lt)⟩
    | none =>
      rw [hm'] at hb
      obtain ⟨p1, p2⟩ := g'.mem b ob hb
      exact ⟨fun hr => (p1 hr).elim False.elim .inr, p2⟩

theorem CallD.v {P : Program} {f : PV} {args : List PV} {KP : PV → Mem → Prop} {fv : Value} {vs : List Value} {K : Value → UW → Prop} (hg : Good Z u μ) (hw : Wf u) (hf : Rep Z f fv) (ha : Reps Z args vs) (h : CallD P q f args μ KP) (hK : ContV q Z μ u KP K) : CallV P fv vs u K := by
  unfold CallD at h
  cases q with
  | false =>
    simp only [cond_false] at h
    refine (CallVP.v hg hw hf ha h).mono fun v lo w' hm hl hp => ?_
    obtain ⟨Z', μ', p, e, g', hr, hk⟩ := hp
    exact hK Z' μ' p v _ e g' (hw.ret hm.size) hm.size (fun h => by cases h) hr hk
  | true =>
    simp only [cond_true] at h
    split at h
    · rename_i g first caps
      obtain ⟨fv', cv', rfl, h1, h2⟩ := hf.ofFn
      obtain ⟨hc, hcall⟩ := CallQ.f hg hw ((h1.append ha).append h2) h hK
      show (bif callable P g then CallF P g (fv'.toArray.toList ++ vs ++ cv'.toArray.toList).toArray u K else False)
      rw [hc]
      exact hcall
    · exact h.elim

end
end Go.Eng
