import Derived.Test.YtfjemjnbemdkgaaQ05
/-
  V is sound: code; functions.
-/
namespace Go.Eng
open Go.RowKit
set_option linter.unusedVariables false

section
variable {E : EnvP} {fz : List Nat} {ops : Array Oper}

theorem Cont.step {Z Z1 : Fz} {μ μ1 : Mem} {u u1 : UW} {KP : PSt → Mem → Prop} {K : St → UW → Prop} (h : Cont false Z μ u KP K) (e : Ext Z μ u.heap.size Z1 μ1) (hN : u.heap.size ≤ u1.heap.size) : Cont false Z1 μ1 u1 KP K :=
  fun Z' p' μ' s' u' r g w e' n _ k => h Z' p' μ' s' u' r g w (e.trans e' hN) (Nat.le_trans hN n) (fun h => by cases h) k

theorem undef_rep (Z : Fz) : Rep Z (.tup []) undef := Reps.toTup (vs := []) (Reps.nil Z)

theorem Vl_sound {QP : PSt → Mem → Prop} {Q : St → UW → Prop} : ∀ (l : List Oper) (p : PSt) (s : St) (μ : Mem) (u : UW) (Z : Fz), Rel2 Z p s → Good Z u μ → Wf u → Cont false Z μ u QP Q → Vl E fz ops QP l p μ → Wl E.er fz ops Q l s u
  | [], p, s, μ, u, Z, hr, hg, hw, hC, h => hC Z p μ s u hr hg hw hg.ext (Nat.le_refl _) (fun h => by cases h) h
  | o :: l, p, s, μ, u, Z, hr, hg, hw, hC, h => by
    have act : ∀ {p1 : PSt} {s1 : St}, Rel2 Z p1 s1 → V1 E false fz o p1 μ (fun p' μ' => Vl E fz ops QP l p' μ') → W1 E.er fz o s1 u (fun s' u' => Wl E.er fz ops Q l s' u') := fun hr1 h1 =>
      V1_sound hr1 hg hw (fun Z' p' μ' s' u' r g w e n _ k => Vl_sound l p' s' μ' u' Z' r g w (hC.step e n) k) h1
    have skip : ∀ {p1 : PSt} {s1 : St}, Rel2 Z p1 s1 → Vl E fz ops QP l (finP o p1 (.tup [])) μ → Wl E.er fz ops Q l (fin o s1 undef) u := fun hr1 h1 =>
      Vl_sound l _ _ μ u Z (hr1.fin o (undef_rep Z)) hg hw hC h1
    simp only [Vl] at h
    simp only [Wl]
    cases hgd : o.guard with
    | none => rw [hgd] at h; exact act hr h
    | some jb =>
      obtain ⟨j, b⟩ := jb
      rw [hgd] at h
      simp only at h ⊢
      cases hgs : gslot ops j with
      | none => rw [hgs] at h; exact h.elim
      | some g =>
        rw [hgs] at h
        simp only at h ⊢
        have hs := hr.slot g
        split at h
        · rename_i c he
          rw [he] at hs
          rw [hs.ofRaw.1]
          simp only
          have hT : Rel2 Z { p with σ := updP p.σ g (pB true) } { s with σ := upd s.σ g (.bool true) } := ⟨hr.D, RepF.upd hr.slot (.raw _ rfl rfl)⟩
          have hF : Rel2 Z { p with σ := updP p.σ g (pB false) } { s with σ := upd s.σ g (.bool false) } := ⟨hr.D, RepF.upd hr.slot (.raw _ rfl rfl)⟩
          cases c <;> cases b
          · exact act hF h
          · exact skip hF h
          · exact skip hT h
          · exact act hT h
        · rename_i vs he
          rw [he] at hs
          obtain ⟨ws, hv, _⟩ := hs.ofTup
          rw [hv]
          exact skip hr h
        · exact h.elim

def POk (ops : Array Oper) : Plan → Prop
  | .nil => True
  | .tk i p => (∀ o, ops[i]? = some o → takeable o = true) ∧ POk ops p
  | .ef i p => okAfter ops i p = true ∧ POk ops p
  | .ef2 i p j q => (okAfter ops i p = true ∧ POk ops p) ∧ (okAfter ops j q = true ∧ POk ops q)
  | .ef3 i p j q k r => (okAfter ops i p = true ∧ POk ops p) ∧ (okAfter ops j q = true ∧ POk ops q) ∧ (okAfter ops k r = true ∧ POk ops r)

theorem findTake_ok {listed : Array Bool} : ∀ {l : List Nat} {i : Nat}, findTake ops listed l = some i → ∀ o, ops[i]? = some o → takeable o = true
  | [], i, h => by simp [findTake] at h
  | j :: l, i, h => by
    simp only [findTake] at h
    intro o ho
    cases ho2 : ops[j]? with
    | none => rw [ho2] at h; exact findTake_ok h o ho
    | some oj =>
      rw [ho2] at h
      simp only at h
      cases hc : (takeable oj && Region.free .any ops listed j) with
      | true =>
        rw [hc] at h
        simp only [cond_true, Option.some.injEq] at h
        subst h
        rw [ho] at ho2; cases ho2
        simp only [Bool.and_eq_true] at hc
        exact hc.1
      | false => rw [hc] at h; exact findTake_ok h o ho

theorem planF_ok : ∀ {f : Nat} {listed : Array Bool} {p : Plan}, planF ops f listed = some p → POk ops p
  | 0, listed, p, h => by
    simp only [planF] at h
    split at h
    · cases h; trivial
    · cases h
  | f + 1, listed, p, h => by
    simp only [planF] at h
    split at h
    · cases h; trivial
    · split at h
      · rename_i j hj
        split at h
        · rename_i p' hp; cases h; exact ⟨findTake_ok hj, planF_ok hp⟩
        · cases h
      · split at h
        · split at h
          · rename_i p' hp
            cases hc : okAfter ops _ p' with
            | true => rw [hc] at h; cases h; exact ⟨hc, planF_ok hp⟩
            | false => rw [hc] at h; cases h
          · cases h
        · split at h
          · rename_i p' q' hp hq
            cases hc : (okAfter ops _ p' && okAfter ops _ q') with
            | true =>
              rw [hc] at h; cases h
              simp only [Bool.and_eq_true] at hc
              exact ⟨⟨hc.1, planF_ok hp⟩, hc.2, planF_ok hq⟩
            | false => rw [hc] at h; cases h
          · cases h
        · split at h
          · rename_i p' q' r' hp hq hr
            cases hc : (okAfter ops _ p' && okAfter ops _ q' && okAfter ops _ r') with
            | true =>
              rw [hc] at h; cases h
              simp only [Bool.and_eq_true] at hc
              exact ⟨⟨hc.1.1, planF_ok hp⟩, ⟨hc.1.2, planF_ok hq⟩, hc.2, planF_ok hr⟩
            | false => rw [hc] at h; cases h
          · cases h
        · cases h

theorem guarded_rep {Z : Fz} {o : Oper} {p : PSt} {s : St} {actP skipP : PSt → Prop} {act skip : St → Prop} (hr : Rel2 Z p s) (ha : ∀ p1 s1, Rel2 Z p1 s1 → actP p1 → act s1) (hs : ∀ p1 s1, Rel2 Z p1 s1 → skipP p1 → skip s1) (h : guardedP ops o p actP skipP) : guarded ops o s act skip := by
  unfold guardedP at h
  unfold guarded
  cases hgd : o.guard with
  | none => rw [hgd] at h; exact ha _ _ hr h
  | some jb =>
    obtain ⟨j, b⟩ := jb
    rw [hgd] at h
    simp only at h ⊢
    cases hgs : gslot ops j with
    | none => rw [hgs] at h; exact h.elim
    | some g =>
      rw [hgs] at h
      simp only at h ⊢
      have hsl := hr.slot g
      split at h
      · rename_i c he
        rw [he] at hsl
        rw [hsl.ofRaw.1]
        simp only
        have hT : Rel2 Z { p with σ := updP p.σ g (pB true) } { s with σ := upd s.σ g (.bool true) } := ⟨hr.D, RepF.upd hr.slot (.raw _ rfl rfl)⟩
        have hF : Rel2 Z { p with σ := updP p.σ g (pB false) } { s with σ := upd s.σ g (.bool false) } := ⟨hr.D, RepF.upd hr.slot (.raw _ rfl rfl)⟩
        cases c <;> cases b
        · exact ha _ _ hF h
        · exact hs _ _ hF h
        · exact hs _ _ hT h
        · exact ha _ _ hT h
      · rename_i vs he
        rw [he] at hsl
        obtain ⟨ws, hv, _⟩ := hsl.ofTup
        rw [hv]
        exact hs _ _ hr h
      · exact h.elim

theorem V1_new {q q' : Bool} {fz fz' : List Nat} {o : Oper} {p : PSt} {μ : Mem} {K : PSt → Mem → Prop} (hn : isNew o = true) (hp : privOp E.priv o = false) (h : V1 E q fz o p μ K) : V1 E q' fz' o p μ K := by
  unfold isNew at hn
  unfold privOp at hp
  unfold V1 at h ⊢
  split at hn
  · rename_i t ho
    simp only [ho] at h hp ⊢
    cases hz : (E.P.info? t).bind (·.zero) with
    | none => rw [hz] at h; exact h.elim
    | some z =>
      rw [hz] at h
      simp only at h ⊢
      obtain ⟨h1, h⟩ := bif_elim h
      rw [h1]
      simp only [cond_true]
      unfold newB at h ⊢
      cases hd : o.dst with
      | none => rw [hd] at h; exact h.elim
      | some k =>
        rw [hd] at h hp
        simp only at h hp ⊢
        rw [hp] at h ⊢
        exact h
  · rename_i t x ho
    simp only [ho] at h hp ⊢
    obtain ⟨h1, h⟩ := bif_elim h
    rw [h1]
    simp only [cond_true]
    unfold newB at h ⊢
    cases hd : o.dst with
    | none => rw [hd] at h; exact h.elim
    | some k =>
      rw [hd] at h hp
      simp only at h hp ⊢
      rw [hp] at h ⊢
      exact h
  · rename_i t len ps ho
    simp only [ho] at h ⊢
    exact h
  · cases hn

theorem lateV_sound {Z : Fz} {u0 : UW} {o : Oper} {p : PSt} {s : St} {μ0 μ : Mem} {u : UW} {fz : List Nat} {KP : PSt → Mem → Prop} {K : St → UW → Prop} (hr : Rel2 Z p s) (hg : Good Z u μ) (hw : Wf u) (hmn : ∀ b, μ b ≠ none → μ0 b ≠ none ∨ u0.heap.size ≤ b) (hsm : Same u0 u)
    (hK : ∀ Z' p' μ' s' u', Rel2 Z' p' s' → Good Z' u' μ' → Wf u' → Ext Z μ u.heap.size Z' μ' → u.heap.size ≤ u'.heap.size → Same u0 u' → KP p' μ' → K s' u')
    (h : lateV E fz o p μ0 μ KP) : W1 E.er fz o s u K := by
  have base : V1 E true fz o p μ KP → W1 E.er fz o s u K := fun h1 => V1_sound hr hg hw (fun Z' p' μ' s' u' a1 a2 a3 a4 a5 a6 a7 => hK Z' p' μ' s' u' a1 a2 a3 a4 a5 (belowNext hsm (a6 rfl)) a7) h1
  unfold lateV at h
  split at h
  · rename_i t x y ho
    split at h
    · rename_i b off he
      obtain ⟨h0, h⟩ := h
      unfold V1 at h
      unfold W1
      simp only [ho] at h ⊢
      obtain ⟨hc, h⟩ := bif_elim h
      simp only [Bool.and_eq_true, beq_iff] at hc
      have hy := hr.ev y
      have hx := hr.ev x
      have hrep := (hy.nrmT (P := E.P) (t := t)).cells (by rw [nrmT_ok]; exact hc.1.1)
      have hsz : (ev s.σ y).cells.size = (nrmT E.P t (evP p.σ y)).cells.length := by have := hrep.1; simpa using this
      have hcc : (plain (ev s.σ y) && Nat.beq (ev s.σ y).cells.size (E.er.P.cellsOf t) && allPlain (ev s.σ y).cells.toList && (E.er.P.info? t).isSome) = true := by
        have h2 : (E.er.P.info? t).isSome = true := hc.2
        rw [hy.plain hc.1.1, hsz, hc.1.2, allPlain_of hrep, h2]
        have : Nat.beq (E.P.cellsOf t) (E.er.P.cellsOf t) = true := Nat.beq_refl _
        rw [this]; rfl
      rw [hcc]
      simp only [cond_true]
      rw [he] at hx h
      rw [hx.ofRaw.1]
      show withPtr (.pointer (some ⟨b, off, none⟩)) _
      unfold withPtr
      simp only
      simp only [cond_false] at h
      unfold withPtrP at h
      simp only at h
      obtain ⟨T, cs, hm, hl, h⟩ := h
      have hb : u0.heap.size ≤ b := (hmn b (by rw [hm]; simp)).resolve_left fun hn => hn h0
      exact hg.store hm hl (toRaws_rep hrep).m fun w' hs g1 g2 => hK Z _ _ _ _ (hr.fin o (Reps.toTup (vs := []) (Reps.nil Z))) g1 (hw.sto hs) g2 hs.size ⟨hs.os.trans hsm.os, hs.tape.trans hsm.tape, hs.output.trans hsm.output, Nat.le_trans hsm.size hs.size, fun c hc => (hs.ne c (by omega) (Nat.lt_of_lt_of_le hc hsm.size)).trans (hsm.block c hc)⟩ h
    · exact base h
  · exact base h

theorem stepEP_sound {Z : Fz} {u0 : UW} {μ0 : Mem} {i : Nat} {p : PSt} {s : St} {μ : Mem} {u : UW} {KP : PSt → Mem → Prop} {K : St → UW → Prop} (hr : Rel2 Z p s) (hg : Good Z u μ) (hw : Wf u) (hmn : ∀ b, μ b ≠ none → μ0 b ≠ none ∨ u0.heap.size ≤ b) (hsm : hard ops i = true → Same u0 u)
    (hK : ∀ Z' p' μ' s' u', Rel2 Z' p' s' → Good Z' u' μ' → Wf u' → Ext Z μ u.heap.size Z' μ' → u.heap.size ≤ u'.heap.size → (hard ops i = true → Same u0 u') → (newI ops i = true → Same u0 u → Same u0 u') → KP p' μ' → K s' u')
    (h : stepEP E fz ops μ0 i p μ KP) : stepE E.er fz ops u0 i s u K := by
  unfold stepEP at h
  unfold stepE
  cases ho : ops[i]? with
  | none => rw [ho] at h; exact h.elim
  | some o =>
    rw [ho] at h
    simp only at h ⊢
    have hpv : privOp E.er.priv o = privOp E.priv o := rfl
    rw [hpv]
    cases hp : privOp E.priv o with
    | true => rw [hp] at h; exact h.elim
    | false =>
      rw [hp] at h
      simp only [cond_false] at h ⊢
      refine guarded_rep hr (fun p1 s1 r1 h1 => ?_) (fun p1 s1 r1 h1 => ?_) h
      · cases hl : hard ops i with
        | true =>
          rw [hl] at h1
          simp only [cond_true] at h1 ⊢
          rw [r1.D] at h1
          refine lateV_sound r1 hg hw hmn (hsm hl) (fun Z' p' μ' s' u' a1 a2 a3 a4 a5 hs' a7 => ?_) h1
          exact ⟨hs', hK Z' p' μ' s' u' a1 a2 a3 a4 a5 (fun _ => hs') (fun _ _ => hs') a7⟩
        | false =>
          rw [hl] at h1
          simp only [cond_false] at h1 ⊢
          cases hn : newI ops i with
          | true =>
            have hnw : isNew o = true := by unfold newI at hn; rw [ho] at hn; exact hn
            exact V1_sound r1 hg hw (fun Z' p' μ' s' u' a1 a2 a3 a4 a5 a6 a7 => hK Z' p' μ' s' u' a1 a2 a3 a4 a5 (fun h => by rw [hl] at h; cases h) (fun _ hs => belowNext hs (a6 rfl)) a7) (V1_new hnw hp h1)
          | false =>
            exact V1_sound r1 hg hw (fun Z' p' μ' s' u' a1 a2 a3 a4 a5 a6 a7 => hK Z' p' μ' s' u' a1 a2 a3 a4 a5 (fun h => by rw [hl] at h; cases h) (fun h => by rw [hn] at h; cases h) a7) h1
      · exact hK Z _ μ _ u (r1.fin o (undef_rep Z)) hg hw hg.ext (Nat.le_refl _) hsm (fun _ hs => hs) h1

theorem afterE {i : Nat} {pl pl' : Plan} {u0 u u' : UW} (hok : okAfter ops i pl = true) (hsm : Same u0 u ∨ anyLate ops pl' = false) (hr : anyLate ops pl' = false → anyLate ops pl = false) (a6 : hard ops i = true → Same u0 u') (a8 : newI ops i = true → Same u0 u → Same u0 u') : Same u0 u' ∨ anyLate ops pl = false := by
  unfold okAfter at hok
  cases hl : hard ops i with
  | true => exact .inl (a6 hl)
  | false =>
    cases hn : newI ops i with
    | true => exact hsm.imp (a8 hn) hr
    | false =>
      simp only [hl, hn, Bool.false_or, Bool.and_eq_true, Bool.not_eq_true'] at hok
      exact .inr hok.2

theorem Vd_sound {QP : PSt → Mem → Prop} {Q : St → UW → Prop} {Z0 : Fz} {u0 : UW} {μ0 : Mem} (hg0 : Good Z0 u0 μ0) : ∀ (pl : Plan) (c : Bool) (p : PSt) (s : St) (μ : Mem) (u : UW) (Z : Fz), POk ops pl → Rel2 Z p s → Good Z u μ → Wf u → Z0.le Z → Ext Z0 μ0 u0.heap.size Z μ → u0.heap.size ≤ u.heap.size → (c = true → Good Z u0 μ0) → (Same u0 u ∨ anyLate ops pl = false) →
    Cont false Z μ u QP Q → Vd E fz ops μ0 QP c pl p μ → Wd E.er fz ops u0 Q pl s u
  | .nil, c, p, s, μ, u, Z, _, hr, hg, hw, _, _, _, _, _, hC, h => hC Z p μ s u hr hg hw hg.ext (Nat.le_refl _) (fun h => by cases h) h
  | .tk i pl, c, p, s, μ, u, Z, hok, hr, hg, hw, hz, hx, hN, hc, hsm, hC, h => by
    simp only [Vd, stepTP] at h
    simp only [Wd, stepT]
    cases ho : ops[i]? with
    | none => rw [ho] at h; exact h.elim
    | some o =>
      rw [ho] at h
      simp only at h ⊢
      have next : ∀ p' s', Rel2 Z p' s' → Vd E fz ops μ0 QP c pl p' μ → Wd E.er fz ops u0 Q pl s' u := fun p' s' r k => Vd_sound hg0 pl c p' s' μ u Z hok.2 r hg hw hz hx hN hc hsm hC k
      refine guarded_rep hr (fun p1 s1 r1 h1 => ?_) (fun p1 s1 r1 h1 => next _ _ (r1.fin o (undef_rep Z)) h1) h
      obtain ⟨hcf, h1⟩ := bif_elim h1
      cases hl : isLoadO o with
      | false => exact V1_pure (KP := fun p' _ => Vd E fz ops μ0 QP c pl p' μ) (K := fun s' _ => Wd E.er fz ops u0 Q pl s' u) r1 (hok.1 o ho) hl next h1
      | true =>
        refine load_sound (KP := fun p' _ => Vd E fz ops μ0 QP c pl p' μ) (K := fun s' _ => Wd E.er fz ops u0 Q pl s' u) (Zr := Z0) r1 hg0 hz ?_ hl next h1
        cases c with
        | true => exact .inr (hc rfl)
        | false => simp only [Bool.false_or, Bool.not_eq_true'] at hcf; exact .inl hcf
  | .ef i pl, c, p, s, μ, u, Z, hok, hr, hg, hw, hz, hx, hN, hc, hsm, hC, h => by
    have ok1 := hok.1
    refine stepEP_sound hr hg hw hx.mn (fun hl => hsm.elim id fun hn => ?_) (fun Z' p' μ' s' u' a1 a2 a3 a4 a5 a6 a8 a7 => Vd_sound hg0 pl false p' s' μ' u' Z' hok.2 a1 a2 a3 (hz.trans a4.le) (hx.trans a4 hN) (Nat.le_trans hN a5) (fun h => by cases h) ?_ (hC.step a4 a5) a7) h
    · simp only [anyLate, hl, Bool.true_or] at hn; cases hn
    · exact afterE ok1 hsm (fun hn => by simp only [anyLate, Bool.or_eq_false_iff] at hn; exact hn.2) a6 a8
  | .ef2 i pl j pl2, c, p, s, μ, u, Z, hok, hr, hg, hw, hz, hx, hN, hc, hsm, hC, h => by
    obtain ⟨⟨ok1, ok1'⟩, ok2, ok2'⟩ := hok
    refine ⟨stepEP_sound hr hg hw hx.mn (fun hl => hsm.elim id fun hn => ?_) (fun Z' p' μ' s' u' a1 a2 a3 a4 a5 a6 a8 a7 => Vd_sound hg0 pl false p' s' μ' u' Z' ok1' a1 a2 a3 (hz.trans a4.le) (hx.trans a4 hN) (Nat.le_trans hN a5) (fun h => by cases h) ?_ (hC.step a4 a5) a7) h.1,
      stepEP_sound hr hg hw hx.mn (fun hl => hsm.elim id fun hn => ?_) (fun Z' p' μ' s' u' a1 a2 a3 a4 a5 a6 a8 a7 => Vd_sound hg0 pl2 false p' s' μ' u' Z' ok2' a1 a2 a3 (hz.trans a4.le) (hx.trans a4 hN) (Nat.le_trans hN a5) (fun h => by cases h) ?_ (hC.step a4 a5) a7) h.2⟩
    · simp only [anyLate, hl, Bool.true_or] at hn; cases hn
    · exact afterE ok1 hsm (fun hn => by simp only [anyLate, Bool.or_eq_false_iff] at hn; exact hn.1.2) a6 a8
    · simp only [anyLate, hl, Bool.true_or, Bool.or_true] at hn; cases hn
    · exact afterE ok2 hsm (fun hn => by simp only [anyLate, Bool.or_eq_false_iff] at hn; exact hn.2.2) a6 a8
  | .ef3 i pl j pl2 k pl3, c, p, s, μ, u, Z, hok, hr, hg, hw, hz, hx, hN, hc, hsm, hC, h => by
    obtain ⟨⟨ok1, ok1'⟩, ⟨ok2, ok2'⟩, ok3, ok3'⟩ := hok
    refine ⟨stepEP_sound hr hg hw hx.mn (fun hl => hsm.elim id fun hn => ?_) (fun Z' p' μ' s' u' a1 a2 a3 a4 a5 a6 a8 a7 => Vd_sound hg0 pl false p' s' μ' u' Z' ok1' a1 a2 a3 (hz.trans a4.le) (hx.trans a4 hN) (Nat.le_trans hN a5) (fun h => by cases h) ?_ (hC.step a4 a5) a7) h.1,
      stepEP_sound hr hg hw hx.mn (fun hl => hsm.elim id fun hn => ?_) (fun Z' p' μ' s' u' a1 a2 a3 a4 a5 a6 a8 a7 => Vd_sound hg0 pl2 false p' s' μ' u' Z' ok2' a1 a2 a3 (hz.trans a4.le) (hx.trans a4 hN) (Nat.le_trans hN a5) (fun h => by cases h) ?_ (hC.step a4 a5) a7) h.2.1,
      stepEP_sound hr hg hw hx.mn (fun hl => hsm.elim id fun hn => ?_) (fun Z' p' μ' s' u' a1 a2 a3 a4 a5 a6 a8 a7 => Vd_sound hg0 pl3 false p' s' μ' u' Z' ok3' a1 a2 a3 (hz.trans a4.le) (hx.trans a4 hN) (Nat.le_trans hN a5) (fun h => by cases h) ?_ (hC.step a4 a5) a7) h.2.2⟩
    · simp only [anyLate, hl, Bool.true_or] at hn; cases hn
    · exact afterE ok1 hsm (fun hn => by simp only [anyLate, Bool.or_eq_false_iff] at hn; exact hn.1.1.2) a6 a8
    · simp only [anyLate, hl, Bool.true_or, Bool.or_true] at hn; cases hn
    · exact afterE ok2 hsm (fun hn => by simp only [anyLate, Bool.or_eq_false_iff] at hn; exact hn.1.2.2) a6 a8
    · simp only [anyLate, hl, Bool.true_or, Bool.or_true] at hn; cases hn
    · exact afterE ok3 hsm (fun hn => by simp only [anyLate, Bool.or_eq_false_iff] at hn; exact hn.2.2) a6 a8

def QOk (ops : Array Oper) : PlanQ → Prop
  | .nil => True
  | .tk i q => (∀ o, ops[i]? = some o → takeable o = true) ∧ QOk ops q
  | .ld i q r => (∀ o, ops[i]? = some o → takeable o = true) ∧ QOk ops q ∧ QOk ops r
  | .alt _ q r => QOk ops q ∧ QOk ops r
  | .done => True

theorem takeQ_ok {listed : Array Bool} {blk : List Nat} : ∀ {l : List Nat} {i : Nat}, takeQ ops listed blk l = some i → ∀ o, ops[i]? = some o → takeable o = true := fun h o ho => by
  obtain ⟨_, oj, hoj, htk, _⟩ := takeQ_spec _ h
  rw [ho] at hoj; cases hoj; exact htk

theorem loadQ_ok {listed : Array Bool} {blk : List Nat} : ∀ {l : List Nat} {i : Nat}, loadQ ops listed blk l = some i → ∀ o, ops[i]? = some o → takeable o = true := fun h o ho => by
  obtain ⟨_, oj, hoj, htk, _⟩ := loadQ_spec _ h
  rw [ho] at hoj; cases hoj; exact htk

theorem altsQ_ok {blk : List Nat} {g : Nat → Option PlanQ} (hg : ∀ i q, g i = some q → QOk ops q) : ∀ {l : List Nat} {q : PlanQ}, altsQ ops blk g l = some q → QOk ops q
  | [], q, h => by cases h; trivial
  | i :: l, q, h => by
    simp only [altsQ] at h
    cases hb : memN blk i with
    | true => rw [hb] at h; exact altsQ_ok hg h
    | false =>
      rw [hb] at h
      simp only [cond_false] at h
      cases ht : takI ops i true with
      | true => rw [ht] at h; cases h
      | false =>
        rw [ht] at h
        simp only [cond_false] at h
        split at h
        · cases h
        · rename_i qi hi
          split at h
          · cases h
          · rename_i r hl; cases h; exact ⟨hg _ _ hi, altsQ_ok hg hl⟩

theorem planQ_ok : ∀ {g : Nat} {listed : Array Bool} {blk : List Nat} {p : PlanQ}, planQ ops g listed blk = some p → QOk ops p
  | 0, _, _, _, h => by simp [planQ] at h
  | g + 1, listed, blk, p, h => by
    simp only [planQ] at h
    split at h
    · cases h; trivial
    · split at h
      · rename_i j hj
        split at h
        · rename_i q hq; cases h; exact ⟨takeQ_ok hj, planQ_ok hq⟩
        · cases h
      · split at h
        · rename_i j hj
          split at h
          · rename_i q r hq hr; cases h; exact ⟨loadQ_ok hj, planQ_ok hq, planQ_ok hr⟩
          · cases h
        · exact altsQ_ok (fun i q hq => planQ_ok hq) h

theorem Vq_sound {QP : PSt → Mem → Prop} {Q : St → UW → Prop} : ∀ (pl : PlanQ) (p : PSt) (s : St) (μ : Mem) (u : UW) (Z : Fz), QOk ops pl → Rel2 Z p s → Good Z u μ → Wf u → Cont false Z μ u QP Q → Vq E fz ops QP pl p μ → Wq E.er fz ops Q pl s u := by
  have take : ∀ {i : Nat} {pl : PlanQ} {p : PSt} {s : St} {μ : Mem} {u : UW} {Z : Fz}, (∀ o, ops[i]? = some o → takeable o = true) → Rel2 Z p s → Good Z u μ → (∀ p' s', Rel2 Z p' s' → Vq E fz ops QP pl p' μ → Wq E.er fz ops Q pl s' u) →
      stepTP E fz ops true μ i p (fun st' => Vq E fz ops QP pl st' μ) → stepT E.er fz ops u i s (fun st' => Wq E.er fz ops Q pl st' u) := by
    intro i pl p s μ u Z hok hr hg next h
    unfold stepTP at h
    unfold stepT
    cases ho : ops[i]? with
    | none => rw [ho] at h; exact h.elim
    | some o =>
      rw [ho] at h
      simp only at h ⊢
      refine guarded_rep hr (fun p1 s1 r1 h1 => ?_) (fun p1 s1 r1 h1 => next _ _ (r1.fin o (undef_rep Z)) h1) h
      simp only [Bool.true_or, cond_true] at h1
      cases hl : isLoadO o with
      | false => exact V1_pure (KP := fun p' _ => Vq E fz ops QP pl p' μ) (K := fun s' _ => Wq E.er fz ops Q pl s' u) r1 (hok o ho) hl next h1
      | true => exact load_sound (KP := fun p' _ => Vq E fz ops QP pl p' μ) (K := fun s' _ => Wq E.er fz ops Q pl s' u) (Zr := Z) r1 hg (Fz.le.refl Z) (.inr hg) hl next h1
  intro pl
  induction pl with
  | nil => intro p s μ u Z hok hr hg hw hC h; exact hC Z p μ s u hr hg hw hg.ext (Nat.le_refl _) (fun h => by cases h) h
  | tk i pl ih => intro p s μ u Z hok hr hg hw hC h; exact take hok.1 hr hg (fun p' s' r k => ih p' s' μ u Z hok.2 r hg hw hC k) h
  | ld i pl r ih ihr => intro p s μ u Z hok hr hg hw hC h; exact ⟨take hok.1 hr hg (fun p' s' r k => ih p' s' μ u Z hok.2.1 r hg hw hC k) h.1, ihr p s μ u Z hok.2.2 hr hg hw hC h.2⟩
  | alt i pl r ih ihr =>
    intro p s μ u Z hok hr hg hw hC h
    refine ⟨?_, ihr p s μ u Z hok.2 hr hg hw hC h.2⟩
    have h1 := h.1
    unfold stepQP at h1
    unfold stepQ
    cases ho : ops[i]? with
    | none => rw [ho] at h1; exact h1.elim
    | some o =>
      rw [ho] at h1
      simp only at h1 ⊢
      refine guarded_rep hr (fun p1 s1 r1 h1 => ?_) (fun p1 s1 r1 h1 => ih _ _ μ u Z hok.1 (r1.fin o (undef_rep Z)) hg hw hC h1) h1
      exact V1_sound r1 hg hw (fun Z' p' μ' s' u' r g w e n _ k => ih p' s' μ' u' Z' hok.1 r g w (hC.step e n) k) h1
  | done => intro p s μ u Z hok hr hg hw hC h; trivial

theorem look_map {α β : Type} (f : α → β) : ∀ (l : List (Nat × α)) (i : Nat), look (l.map fun x => (x.1, f x.2)) i = (look l i).map f
  | [], _ => rfl
  | (k, x) :: l, i => by
    simp only [List.map_cons, look]
    cases Nat.beq k i
    · exact look_map f l i
    · rfl

end
end Go.Eng

/-
  V is sound: code; functions.
-/
namespace Go.Eng
open Go.RowKit
set_option linter.unusedVariables false

/-- What is handed on at each way out. -/
def ContE (Z : Fz) (μ : Mem) (u : UW) (QP : Exit → PSt → Mem → Prop) (Q : Exit → St → UW → Prop) : Prop := ∀ e, Cont false Z μ u (QP e) (Q e)

theorem ContE.step {Z Z1 : Fz} {μ μ1 : Mem} {u u1 : UW} {QP : Exit → PSt → Mem → Prop} {Q : Exit → St → UW → Prop} (h : ContE Z μ u QP Q) (e : Ext Z μ u.heap.size Z1 μ1) (hN : u.heap.size ≤ u1.heap.size) : ContE Z1 μ1 u1 QP Q := fun x => (h x).step e hN

theorem Cont.now {Z : Fz} {μ : Mem} {u : UW} {KP : PSt → Mem → Prop} {K : St → UW → Prop} (h : Cont false Z μ u KP K) {p : PSt} {s : St} (hr : Rel2 Z p s) (hg : Good Z u μ) (hw : Wf u) (hk : KP p μ) : K s u :=
  h Z p μ s u hr hg hw hg.ext (Nat.le_refl _) (fun h => by cases h) hk

theorem ContE.thenQ {Z : Fz} {μ : Mem} {u : UW} {QP : Exit → PSt → Mem → Prop} {Q : Exit → St → UW → Prop} {NP : PSt → Mem → Prop} {N : St → UW → Prop} (h : ContE Z μ u QP Q) (hn : Cont false Z μ u NP N) : ContE Z μ u (thenQP NP QP) (thenQ N Q) := by
  intro e
  cases e <;> first | exact hn | exact h _

theorem ContE.blockQ {Z : Fz} {μ : Mem} {u : UW} {QP : Exit → PSt → Mem → Prop} {Q : Exit → St → UW → Prop} (h : ContE Z μ u QP Q) (id : Nat) : ContE Z μ u (blockQP id QP) (blockQ id Q) := by
  intro e
  cases e with
  | exit i =>
    intro Z' p' μ' s' u' a1 a2 a3 a4 a5 a6 a7
    simp only [blockQP] at a7
    simp only [Eng.blockQ]
    cases hb : Nat.beq i id with
    | true => rw [hb] at a7; exact h .normal Z' p' μ' s' u' a1 a2 a3 a4 a5 a6 a7
    | false => rw [hb] at a7; exact h (.exit i) Z' p' μ' s' u' a1 a2 a3 a4 a5 a6 a7
  | normal => exact h _
  | ret => exact h _
  | goto i => exact h _
  | panic i => exact h _
  | outgrown => exact h _

/-- A state of a join's, a loop's. -/
def Held (Z : Fz) (μ : Mem) (N : Nat) (l : LiveP) (J : TupP l → Mem → Prop) (b : Tup l.er) (u : UW) : Prop :=
  ∃ Z' μ' a, Ext Z μ N Z' μ' ∧ Good Z' u μ' ∧ Wf u ∧ N ≤ u.heap.size ∧ RepTup Z' l a b ∧ J a μ'

theorem toJ_cont {Z : Fz} {μ : Mem} {u : UW} {c : CutP} {J : TupP c.live → Mem → Prop} {J' : Tup c.er.live → UW → Prop} (h : ∀ Z' μ' u' a b, Ext Z μ u.heap.size Z' μ' → Good Z' u' μ' → Wf u' → u.heap.size ≤ u'.heap.size → RepTup Z' c.live a b → J a μ' → J' b u') : Cont false Z μ u (toJP c J) (toJ c.er J') :=
  fun Z' p' μ' s' u' a1 a2 a3 a4 a5 _ a7 => toJ_rep a1 a7 fun a b hab hj => h Z' μ' u' a b a4 a2 a3 a5 hab hj

theorem PK_rep {p : Option Code} {A B A' B' : Prop} {l : List Nat} {F F' : Nat → Prop} (h : PK p A B (l.map fun i => (i, F i))) (ha : A → A') (hb : B → B') (hf : ∀ i, F i → F' i) : PK p A' B' (l.map fun i => (i, F' i)) := by
  unfold PK at h ⊢
  split at h
  · exact ha h
  · exact hb h
  · rename_i i
    induction l with
    | nil => exact h
    | cons x l ih =>
      simp only [List.map_cons, lookP] at h ⊢
      cases hx : Nat.beq x i with
      | true => rw [hx] at h; simp only [cond_true] at h ⊢; exact hf x h
      | false => rw [hx] at h; simp only [cond_false] at h ⊢; exact ih h
  · exact h.elim

/-- A record of the machine is laid. -/
theorem Good.bornO {Z : Fz} {u : UW} {μ : Mem} (h : Good Z u μ) {b : Nat} {w' : World} {ob : Obj} (hB : Born u.toWorld w' b ob) {F : FrP} {S : Fr} (hF : RepF Z F S) : Good Z (u.born b w') (μ.set b (some (.obj ob F S))) ∧ μ b = none := by
  have hge : u.heap.size ≤ b := hB.ge
  have keep : ∀ c, c < u.heap.size → (u.born b w').heap[c]? = u.heap[c]? := fun c hc => hB.below.block c hc
  refine ⟨h.go (Fz.le.refl Z) (fun c C hC => .inl ⟨hC, keep c (h.ltZ (by rw [hC]; simp))⟩) (fun c o ho => ?_), h.newM hge⟩
  by_cases e : c = b
  · subst e
    rw [Mem.set_same] at ho; cases ho
    exact .inr ⟨fun _ => .inr rfl, h.newZ hge, hB.at_, hF⟩
  · rw [Mem.set_ne _ _ e] at ho
    exact .inl ⟨ho, keep c (h.ltM (by rw [ho]; simp)), fun hp => .inl hp, rfl⟩

/-- A record is masked, unmasked. -/
theorem Good.mask {Z : Fz} {u : UW} {μ : Mem} {l : Nat} {ob : Obj} {F : FrP} {S : Fr} (h : Good Z u (μ.set l (some (.obj ob F S)))) (hl : μ l = none) : Good Z ⟨u.toWorld.putObj l masked, fun b => u.pub b ∧ b ≠ l⟩ μ := by
  obtain ⟨_, hz, _⟩ := h.mem l (.obj ob F S) (Mem.set_same _ _ _)
  refine h.go (Fz.le.refl Z) (fun c C hC => .inl ⟨hC, ?_⟩) (fun c o ho => .inl ?_)
  · have hne : c ≠ l := by rintro rfl; rw [hz] at hC; cases hC
    exact putObj_get hne
  · have hne : c ≠ l := by rintro rfl; rw [hl] at ho; cases ho
    exact ⟨by rw [Mem.set_ne _ _ hne]; exact ho, putObj_get hne, fun hp => ⟨hp, hne⟩, rfl⟩

theorem rndS_rep {Z : Fz} {p : FrP} {s : Fr} (h : RepF Z p s) : RepF Z (rndSP p) (rndS s) := by
  intro t
  unfold rndSP rndS
  have ht := h t
  cases hp : p t with
  | box k o => exact .poison _
  | poison => exact .poison _
  | _ =>
    rw [hp] at ht
    cases hs : s t with
    | complex k a b => rw [hs] at ht; first | (cases ht; done) | (cases ht; rename_i hpl _; cases hpl)
    | _ => rw [hs] at ht; exact ht

theorem setPs_rep {Z : Fz} : ∀ {qs : List Nat} {ps : List PV} {vs : List Value} {p : FrP} {s : Fr}, RepF Z p s → RepM Z ps vs → RepF Z (setPsP p qs ps) (setPs s qs vs)
  | [], ps, vs, p, s, h, _ => by cases ps <;> cases vs <;> exact h
  | q :: qs, [], vs, p, s, h, hm => by rw [hm.inv0]; exact h
  | q :: qs, x :: ps, vs, p, s, h, hm => by
    obtain ⟨v, vs', rfl, h1, h2⟩ := hm.inv
    exact setPs_rep (p := updP p q x) (s := upd s q v) (h.upd h1) h2

variable {E : EnvP}

def VS (E : EnvP) (c : Code) : Prop := ∀ (fz : List Nat) (QP : Exit → PSt → Mem → Prop) (Q : Exit → St → UW → Prop) (p : PSt) (s : St) (μ : Mem) (u : UW) (Z : Fz), Rel2 Z p s → Good Z u μ → Wf u → ContE Z μ u QP Q → V E fz c QP p μ → W E.er fz c Q s u

theorem range_rep {P : Program} {f : PV} {fv : Value} {Z : Fz} {μ : Mem} {u : UW} {FP : FrP} {F9 : Fr} {bodyP : List PV → (Option Code → Mem → Prop) → Mem → Prop} {body : List Value → (Option Code → UW → Prop) → UW → Prop} {KP : Option Code → Mem → Prop} {K : Option Code → UW → Prop}
    (hg : Good Z u μ) (hw : Wf u) (hf : Rep Z f fv) (hF : RepF Z FP F9) (h : RangeP P f bodyP KP μ)
    (hbody : ∀ (Z1 : Fz) (u1 : UW) (μ1 : Mem) (vsP : List PV) (vs : List Value) (RP : Option Code → Mem → Prop) (R : Option Code → UW → Prop), RepF Z1 FP F9 → Good Z1 u1 μ1 → Wf u1 → Reps Z1 vsP vs → (∀ pc Z' μ' u', Ext Z1 μ1 u1.heap.size Z' μ' → Good Z' u' μ' → Wf u' → u1.heap.size ≤ u'.heap.size → RP pc μ' → R pc u') → bodyP vsP RP μ1 → body vs R u1)
    (hK : ∀ pc Z' μ' u', Ext Z μ u.heap.size Z' μ' → Good Z' u' μ' → Wf u' → u.heap.size ≤ u'.heap.size → KP pc μ' → K pc u') : RangeF P fv body K u := by
  obtain ⟨⟨g, a, b, rfl⟩, h⟩ := h
  obtain ⟨fv', cv', rfl, _, _⟩ := id hf.ofFn
  refine ⟨⟨g, _, _, rfl⟩, fun l rec w' hil hB hy => ?_⟩
  obtain ⟨gb, hml⟩ := hg.bornO hB hF
  have hwb : Wf (u.born l w') := hw.born hB
  have hge : u.heap.size ≤ l := hB.ge
  have hbs : u.heap.size ≤ w'.heap.size := hB.below.size
  have ry : ∀ Z1 : Fz, Rep Z1 (.fn (.yield l) [] []) (.func (.yield l) #[] #[]) := fun Z1 => Reps.toFn (fv := []) (cv := []) (Reps.nil Z1) (Reps.nil Z1)
  have hcall := h l (fun p => .obj (rec p) FP F9) hml (fun vs μ1 R hm1 hb => ?_)
  · have hc2 := CallVP.v gb hwb hf (Reps.cons rfl (ry Z) (Reps.nil Z)) hcall
    refine hc2.mono fun v lo w2 hm hlo hp => ?_
    obtain ⟨Z', μ', pp, e, g', hr, pc, μ3, hl3, rfl, hk⟩ := hp
    obtain ⟨hpl, hzl, hhl, _⟩ := g'.mem l _ (Mem.set_same _ _ _)
    have hsz : (u.born l w').heap.size ≤ w2.heap.size := hm.size
    have hsz' : w'.heap.size ≤ w2.heap.size := hsz
    refine ⟨pc, hhl, hK pc Z' μ3 _ ⟨e.le, fun b C hb hn => ?_, fun b hb => ?_, fun b hb => ?_, fun b hb => hg.ltZ hb⟩ (g'.mask hl3) ?_ ?_ hk⟩
    · refine e.zs b C hb ?_
      have hlt := hg.ltZ (b := b) (by rw [hb]; simp)
      rw [Mem.set_ne _ _ (by omega)]; exact hn
    · rcases e.zn b hb with h1 | h1 | h1
      · exact .inl h1
      · by_cases e' : b = l
        · subst e'; exact .inr (.inr hge)
        · rw [Mem.set_ne _ _ e'] at h1; exact .inr (.inl h1)
      · have : w'.heap.size ≤ b := h1
        exact .inr (.inr (by omega))
    · have hne : b ≠ l := by rintro rfl; exact hb hl3
      rcases e.mn b (by rw [Mem.set_ne _ _ hne]; exact hb) with h1 | h1
      · rw [Mem.set_ne _ _ hne] at h1; exact .inl h1
      · have : w'.heap.size ≤ b := h1
        exact .inr (by omega)
    · intro b hb
      have := hwb.ret (lo := lo) hsz b hb.1
      simpa using this
    · show _ ≤ (w2.putObj l masked).heap.size
      have : (w2.putObj l masked).heap.size = w2.heap.size := by simp
      omega
  · show CallVS P (.fn (.yield l) [] []) vs _ _
    intro Z1 u1 fv1 vs1 g1 hw1 hfv1 hvs1
    have ef : fv1 = .func (.yield l) #[] #[] := by
      obtain ⟨x, y, rfl, h1, h2⟩ := hfv1.ofFn
      rw [h1.inv0, h2.inv0]
    subst ef
    obtain ⟨hpl, hzl, hhl, hFF⟩ := g1.mem l _ (Mem.set_same _ _ _)
    have hpl := hpl rfl
    have hll : l < u1.heap.size := (Array.getElem?_eq_some_iff.1 hhl).1
    have hwm : Wf ⟨u1.toWorld.putObj l masked, fun b => u1.pub b ∧ b ≠ l⟩ := fun b hb => by simpa using hw1 b hb.1
    have hval := hy vs1 u1.toWorld (fun b => u1.pub b ∧ b ≠ l) (fun pc uu => ∃ Z' μ3, Ext Z1 μ1 u1.heap.size Z' μ3 ∧ Good Z' uu μ3 ∧ Wf uu ∧ R pc μ3) hhl (fun b hb => ⟨hw1 b hb.1, hb.2⟩)
      (hbody Z1 _ μ1 vs vs1 R _ hFF (g1.mask hm1) hwm hvs1 (fun pc Z' μ' u' e1 e2 e3 e4 e5 => ⟨Z', μ', by simpa using e1, e2, e3, e5⟩) hb)
    refine CallV_iff.2 ⟨fun b => (u1.pub b ∧ b ≠ l) ∨ b = l, fun b hb => hb.elim (·.1) (fun e => by subst e; exact hpl), hval.mono fun v lo w2 hm hlo _ hp => ?_⟩
    obtain ⟨pc, pub, w3, rfl, rfl, hmk, hpub, Z', μ3, e, g3, hw3, hR⟩ := hp
    have hlw : l < w3.heap.size := (Array.getElem?_eq_some_iff.1 hmk).1
    have hzl' : Z' l = none := by
      cases hz : Z' l with
      | none => rfl
      | some C =>
        rcases e.zn l (by rw [hz]; simp) with h1 | h1 | h1
        · exact absurd hzl h1
        · exact absurd hm1 h1
        · omega
    have hm3 : μ3 l = none := by
      cases hz : μ3 l with
      | none => rfl
      | some C =>
        rcases e.mn l (by rw [hz]; simp) with h1 | h1
        · exact absurd hm1 h1
        · omega
    have hsz3 : (w3.putObj l (rec pc)).heap.size = w3.heap.size := by simp
    refine ⟨Z', μ3.set l (some (.obj (rec pc) FP F9)), pB pc.isNone, ⟨e.le, fun b C hb hn => ?_, fun b hb => ?_, fun b hb => ?_, e.lt⟩, ⟨fun b C hb => ?_, fun b o ho => ?_⟩, .raw _ rfl rfl, pc, μ3, rfl, hm3, rfl, hR⟩
    · refine e.zs b C hb ?_
      by_cases e' : b = l
      · subst e'; exact hm1
      · rw [Mem.set_ne _ _ e'] at hn; exact hn
    · rcases e.zn b hb with h1 | h1 | h1
      · exact .inl h1
      · by_cases e' : b = l
        · subst e'; exact absurd hm1 h1
        · exact .inr (.inl (by rw [Mem.set_ne _ _ e']; exact h1))
      · exact .inr (.inr h1)
    · by_cases e' : b = l
      · subst e'; exact .inl (by rw [Mem.set_same]; simp)
      · rw [Mem.set_ne _ _ e'] at hb ⊢
        exact e.mn b hb
    · have hne : b ≠ l := by rintro rfl; rw [hzl'] at hb; cases hb
      obtain ⟨A, T, f, hA, hpre⟩ := g3.zok b C hb
      exact ⟨A, T, f, (putObj_get hne).trans hA, hpre⟩
    · by_cases e' : b = l
      · subst e'
        rw [Mem.set_same] at ho; cases ho
        exact ⟨fun _ => .inl hpl, hzl', World.putObj_heap_same hlw, fun t => (hFF t).mono e.le⟩
      · rw [Mem.set_ne _ _ e'] at ho
        obtain ⟨p1, p2⟩ := g3.mem b o ho
        refine ⟨fun hrw => ?_, p2.go (Fz.le.refl _) rfl (putObj_get e')⟩
        rcases hpub b (p1 hrw) with h1 | h1
        · exact .inl h1.1
        · refine .inr ⟨h1, ?_⟩
          rw [hsz3]; exact p2.lt

theorem V_sound (c : Code) : VS E c := by
  induction c with
  | skip => intro fz QP Q p s μ u Z hr hg hw hC h; exact (hC .normal).now hr hg hw h
  | ret => intro fz QP Q p s μ u Z hr hg hw hC h; exact (hC .ret).now hr hg hw h
  | exit i => intro fz QP Q p s μ u Z hr hg hw hC h; exact (hC (.exit i)).now hr hg hw h
  | region id ops draw =>
    intro fz QP Q p s μ u Z hr hg hw hC h
    cases draw with
    | false => exact Vl_sound ops.toList p s μ u Z hr hg hw (hC .normal) h
    | true =>
      simp only [V] at h
      simp only [W]
      obtain ⟨hm, h⟩ := bif_elim h
      have hm' : E.er.P.follows .mixedOrders = true := hm
      rw [hm']
      simp only [cond_true]
      have hiq' : isQ E.er.priv id = isQ E.priv id := rfl
      rw [hiq']
      cases hiq : isQ E.priv id with
      | true =>
        rw [hiq] at h
        simp only [cond_true] at h ⊢
        cases hp : mkPlanQ ops with
        | none => rw [hp] at h; exact h.elim
        | some pl =>
          rw [hp] at h
          simp only at h ⊢
          have hok : QOk ops pl := by
            unfold mkPlanQ at hp
            cases hs : Region.noSelect ops with
            | true => rw [hs] at hp; exact planQ_ok hp
            | false => rw [hs] at hp; cases hp
          exact Vq_sound pl p s μ u Z hok hr hg hw (hC .normal) h
      | false =>
      rw [hiq] at h
      simp only [cond_false] at h ⊢
      cases hp : mkPlan ops with
      | none => rw [hp] at h; exact h.elim
      | some pl =>
        rw [hp] at h
        simp only at h ⊢
        have hok : POk ops pl := by
          unfold mkPlan at hp
          cases hs : Region.noSelect ops with
          | true => rw [hs] at hp; exact planF_ok hp
          | false => rw [hs] at hp; cases hp
        exact Vd_sound hg pl true p s μ u Z hok hr hg hw (Fz.le.refl Z) hg.ext (Nat.le_refl _) (fun _ => hg) (.inl (Below.refl _ _)) (hC .normal) h
  | seq x y ihx ihy =>
    intro fz QP Q p s μ u Z hr hg hw hC h
    simp only [V] at h
    simp only [W]
    have hlook : ∀ {i : Nat}, look E.er.joins i = (look E.joins i).map CutP.er := fun {i} => look_map CutP.er E.joins i
    have hbind : (firstR y).bind (look E.er.joins) = ((firstR y).bind (look E.joins)).map CutP.er := by
      cases firstR y with
      | none => rfl
      | some i => exact hlook
    rw [hbind]
    split at h
    · rename_i hj
      rw [hj]
      exact ihx fz _ _ p s μ u Z hr hg hw (hC.thenQ fun Z' p' μ' s' u' a1 a2 a3 a4 a5 _ a7 => ihy fz QP Q p' s' μ' u' Z' a1 a2 a3 (hC.step a4 a5) a7) h
    · rename_i l hj
      rw [hj]
      simp only [Option.map_some]
      obtain ⟨hl, J, hA, hB⟩ := bif_elim h
      rw [hr.D] at hl hA
      rw [hl]
      simp only [cond_true]
      refine ⟨Held Z μ u.heap.size l.live J, ?_, ?_⟩
      · exact ihx _ _ _ p s μ u Z hr hg hw (hC.thenQ (toJ_cont fun Z' μ' u' a b e1 e2 e3 e4 e5 e6 => ⟨Z', μ', a, e1, e2, e3, e4, e5, e6⟩)) hA
      · rintro b u' ⟨Z', μ', a, e1, e2, e3, e4, e5, e6⟩
        exact ihy fz QP Q _ _ μ' u' Z' (mix_rep (hr.mono e1.le) (writes x) e5) e2 e3 (hC.step e1 e4) (hB a μ' e6)
  | cond c x y ihx ihy =>
    intro fz QP Q p s μ u Z hr hg hw hC h
    simp only [V] at h
    simp only [W]
    have hc := hr.ev c
    split at h
    · rename_i t ht
      rw [ht] at hc
      rw [hc.ofRaw.1]
      simp only
      cases t with
      | true => exact ihx fz QP Q p s μ u Z hr hg hw hC h
      | false => exact ihy fz QP Q p s μ u Z hr hg hw hC h
    · exact h.elim
  | block id x ih =>
    intro fz QP Q p s μ u Z hr hg hw hC h
    simp only [V] at h
    simp only [W]
    exact ih fz _ _ p s μ u Z hr hg hw (hC.blockQ id) h
  | loop x ih =>
    intro fz QP Q p s μ u Z hr hg hw hC h
    simp only [V] at h
    simp only [W]
    have hbind : (firstR x).bind (look E.er.loops) = ((firstR x).bind (look E.loops)).map CutP.er := by
      cases firstR x with
      | none => rfl
      | some i => exact look_map CutP.er E.loops i
    rw [hbind]
    split at h
    · exact h.elim
    · rename_i l hj
      rw [hj]
      simp only [Option.map_some]
      obtain ⟨hl, h⟩ := bif_elim h
      rw [hr.D] at hl h
      rw [hl]
      simp only [cond_true]
      refine toJ_rep hr h fun a b hab hloop => ?_
      obtain ⟨I, ⟨n0, h0⟩, hround⟩ := hloop
      refine ⟨fun n => Held Z μ u.heap.size l.live (I n), ⟨n0, Z, μ, a, hg.ext, hg, hw, Nat.le_refl _, hab, h0⟩, ?_⟩
      rintro n b u' ⟨Z', μ', a, e1, e2, e3, e4, e5, e6⟩
      refine ih _ _ _ _ _ μ' u' Z' (mix_rep (hr.mono e1.le) (writes x) e5) e2 e3 ((hC.step e1 e4).thenQ (toJ_cont fun Z2 μ2 u2 a2 b2 f1 f2 f3 f4 f5 f6 => ?_)) (hround n a μ' e6)
      obtain ⟨m, hm, hi⟩ := f6
      exact ⟨m, hm, Z2, μ2, a2, e1.trans f1 e4, f2, f3, Nat.le_trans e4 f4, f5, hi⟩
  | rangeFunc f ps x y ihx ihy =>
    intro fz QP Q p s μ u Z hr hg hw hC h
    simp only [V] at h
    simp only [W]
    have hrng : look E.er.rngs (ps.toList.headD 0) = look E.rngs (ps.toList.headD 0) := rfl
    rw [hrng]
    split at h
    · exact h.elim
    · rename_i ts hts
      rw [hts]
      simp only
      obtain ⟨hlen, h⟩ := bif_elim h
      rw [hlen]
      simp only [cond_true]
      refine range_rep (FP := rndSP p.σ) (F9 := rndS s.σ) hg hw (hr.ev f) (rndS_rep hr.slot) h ?_ ?_
      · intro Z1 u1 μ1 vsP vs RP R hF hg1 hw1 hvs hR hb
        obtain ⟨ps', hok, ⟨rfl, hb⟩, hex⟩ := exVsP_elim (Z := Z1) hb
        refine hex (G := fun vs' => vs = vs' ∧ W E.er [] x (normQ fun st1 u1 => W E.er [] y (roundQ R) st1 u1) ⟨setPs (rndS s.σ) ps.toList vs', []⟩ u1) hvs.m ⟨rfl, ?_⟩
        refine ihx [] _ _ ⟨setPsP (rndSP p.σ) ps.toList vsP, []⟩ _ μ1 u1 Z1 ⟨rfl, setPs_rep hF hvs.m⟩ hg1 hw1 (fun e => ?_) hb
        cases e with
        | normal =>
          intro Z2 p2 μ2 s2 u2 a1 a2 a3 a4 a5 _ a7
          refine ihy [] _ _ p2 s2 μ2 u2 Z2 a1 a2 a3 (fun e => ?_) a7
          intro Z3 p3 μ3 s3 u3 b1 b2 b3 b4 b5 _ b7
          cases e with
          | normal => exact hR none Z3 μ3 u3 (a4.trans b4 a5) b2 b3 (Nat.le_trans a5 b5) b7
          | ret => exact hR (some .ret) Z3 μ3 u3 (a4.trans b4 a5) b2 b3 (Nat.le_trans a5 b5) b7
          | exit i => exact hR (some (.exit i)) Z3 μ3 u3 (a4.trans b4 a5) b2 b3 (Nat.le_trans a5 b5) b7
          | goto i => exact b7.elim
          | panic i => exact b7.elim
          | outgrown => exact b7.elim
        | ret => intro Z2 p2 μ2 s2 u2 a1 a2 a3 a4 a5 _ a7; exact a7.elim
        | exit i => intro Z2 p2 μ2 s2 u2 a1 a2 a3 a4 a5 _ a7; exact a7.elim
        | goto i => intro Z2 p2 μ2 s2 u2 a1 a2 a3 a4 a5 _ a7; exact a7.elim
        | panic i => intro Z2 p2 μ2 s2 u2 a1 a2 a3 a4 a5 _ a7; exact a7.elim
        | outgrown => intro Z2 p2 μ2 s2 u2 a1 a2 a3 a4 a5 _ a7; exact a7.elim
      · intro pc Z' μ' u' e1 e2 e3 e4 hk
        have hr' := hr.mono e1.le
        refine PK_rep (F := fun i => QP (.exit i) p μ') hk (fun ha => (hC.step e1 e4 .normal).now hr' e2 e3 ha) (fun hb => ?_) (fun i hi => (hC.step e1 e4 (.exit i)).now hr' e2 e3 hi)
        cases hh : hasRet y with
        | true => rw [hh] at hb; simp only [cond_true] at hb ⊢; exact (hC.step e1 e4 .ret).now hr' e2 e3 hb
        | false => rw [hh] at hb; exact hb.elim
  | scope x ih => intro fz QP Q p s μ u Z hr hg hw hC h; exact h.elim
  | label l => intro fz QP Q p s μ u Z hr hg hw hC h; exact h.elim
  | goto l => intro fz QP Q p s μ u Z hr hg hw hC h; exact h.elim
  | refuse x => intro fz QP Q p s μ u Z hr hg hw hC h; exact h.elim

/-! ### functions -/
theorem resQ_rep {P : Program} {rw : List Nat} {Z : Fz} {p : PSt} {s : St} {μ : Mem} {u : UW} (hr : Rel2 Z p s) (hg : Good Z u μ) : ∀ {rs : List ResultVar} {FP : List PV → Prop} {F : List Value → Prop}, (∀ ps vs, Reps Z ps vs → FP ps → F vs) → resQP P rw p μ rs FP → resQ P s u rs F
  | [], FP, F, hF, h => hF [] [] (Reps.nil Z) h
  | .tmp t :: rs, FP, F, hF, h => by
    simp only [resQP] at h
    simp only [resQ]
    obtain ⟨hk, h⟩ := bif_elim h
    rw [(hr.slot t).plain hk]
    simp only [cond_true]
    exact resQ_rep hr hg (fun ps vs hps hp => hF _ _ (Reps.cons hk (hr.slot t) hps) hp) h
  | .cell a t :: rs, FP, F, hF, h => by
    simp only [resQP] at h
    simp only [resQ]
    cases hk : kindsV P (memN rw a) t with
    | none => rw [hk] at h; exact h.elim
    | some ks =>
      rw [hk] at h
      rw [kindsV_er hk]
      simp only at h ⊢
      rw [List.length_map]
      have ha := hr.slot a
      split at h
      · rename_i k off he
        rw [he] at ha; rw [ha.ofBox]
        simp only
        rw [← hr.D]
        split at h
        · rename_i m hm
          rw [hm]
          simp only
          obtain ⟨hc, h⟩ := bif_elim h
          simp only [Bool.and_eq_true] at hc
          have hrep := (RepF.rdG (k := k) hr.slot ks.length off).c hc.2
          rw [hc.1, allPlain_of hrep]
          simp only [Bool.and_self, cond_true]
          exact resQ_rep hr hg (fun ps vs hps hp => hF _ _ (Reps.cons (mkP_ok hk (rdGP_length _ _ _ _) hc.2) (mk_rep hrep) hps) hp) h
        · exact h.elim
      · unfold withPtrP at h
        split at h
        · rename_i b off he
          rw [he] at ha
          rw [ha.ofRaw.1]
          show withPtr (.pointer (some ⟨b, off, none⟩)) _
          unfold withPtr
          simp only
          obtain ⟨ps0, hlen, hc, ⟨hrd, h⟩, hex⟩ := exLV_elim (Z := Z) h
          obtain ⟨vs0, hv, hm⟩ := rdM_rep hg hrd
          have hrep := hm.c hc
          exact hex (G := fun us => rd u.heap b off ks.length = some us ∧ resQ P s u rs fun vs => F (mkV (aggT P t) us :: vs)) hrep.m ⟨hv, resQ_rep hr hg (fun ps vs hps hp => hF _ _ (Reps.cons (mkP_ok hk hlen hc) (mk_rep hrep) hps) hp) h⟩
        · exact h.elim

def okFnP (n : Nat) (c : Code) (rs : List ResultVar) (k : Nat) : Bool := okCode n c && Nat.ble n 65536 && rs.all (okRes n) && Nat.ble k n

theorem argF_rep {Z : Fz} {ps : List PV} {vs : List Value} (h : Reps Z ps vs) : RepF Z (argFP ps) (argF vs) := by
  intro t
  unfold argFP argF
  cases hp : ps[t]? with
  | none =>
    have : vs[t]? = none := by
      rw [List.getElem?_eq_none_iff] at hp ⊢; rw [h.1]; exact hp
    rw [this]; exact undef_rep Z
  | some p =>
    obtain ⟨v, hv, _, hr⟩ := h.get hp
    rw [hv]; exact hr

theorem VF_sound {f : FuncId} {fn : Func} {c : Code} {rs : List ResultVar} {args : List PV} {μ : Mem} {R : PV → Mem → Prop} (hf : E.P.funcs[f]? = some fn) (hb : fn.body = some c) (hnt : fn.ntmps = E.n) (hrs : fn.results.toList = rs)
    (hok : okFnP E.n c rs args.length = true) (hcl : callable E.P f = true) (h : VF E c rs args μ R) : CallP E.P f args μ R := by
  intro Z u vs hg hw hvs
  refine ⟨hcl, u.pub, fun _ hb => hb, ?_⟩
  have hokv : okFn E.n c rs vs = true := by
    simp only [okFnP, Bool.and_eq_true] at hok
    simp only [okFn, Bool.and_eq_true]
    refine ⟨⟨hok.1, by rw [hvs.1]; exact hok.2⟩, List.all_eq_true.2 fun v hv => hvs.plains v hv⟩
  have hW : WF E.P E.n E.priv E.er.loops E.er.joins E.er.rngs c rs vs ⟨u.toWorld, u.pub⟩ (fun v u' => ∃ Z' μ' p, Ext Z μ u.heap.size Z' μ' ∧ Good Z' u' μ' ∧ Wf u' ∧ Rep Z' p v ∧ R p μ') := by
    refine V_sound c [] _ _ ⟨argFP args, []⟩ _ μ u Z ⟨rfl, argF_rep hvs⟩ hg hw (fun e => ?_) h
    have fin : ∀ (Z' : Fz) (p' : PSt) (μ' : Mem) (s' : St) (u' : UW), Rel2 Z' p' s' → Good Z' u' μ' → Wf u' → Ext Z μ u.heap.size Z' μ' → resQP E.P E.raws p' μ' rs (tupRP R μ') → resQ E.P s' u' rs (tupR (fun v u' => ∃ Z' μ' p, Ext Z μ u.heap.size Z' μ' ∧ Good Z' u' μ' ∧ Wf u' ∧ Rep Z' p v ∧ R p μ') u') := by
      intro Z' p' μ' s' u' a1 a2 a3 a4 a7
      refine resQ_rep a1 a2 (fun ps vs' hps hR => ?_) a7
      match ps, hps with
      | [], hps => rw [hps.inv0]; exact ⟨Z', μ', _, a4, a2, a3, undef_rep Z', hR⟩
      | [q], hps =>
        obtain ⟨v, vs'', rfl, _, h2, h3⟩ := hps.inv
        rw [h3.inv0]
        exact ⟨Z', μ', _, a4, a2, a3, h2, hR⟩
      | q :: q' :: ps, hps =>
        obtain ⟨v, vs'', rfl, _, _, h3⟩ := id hps.inv
        obtain ⟨v', vs3, rfl, _, _, _⟩ := h3.inv
        exact ⟨Z', μ', _, a4, a2, a3, hps.toTup, hR⟩
    intro Z' p' μ' s' u' a1 a2 a3 a4 a5 _ a7
    cases e with
    | normal => exact fin Z' p' μ' s' u' a1 a2 a3 a4 a7
    | ret => exact fin Z' p' μ' s' u' a1 a2 a3 a4 a7
    | exit i => exact a7.elim
    | goto i => exact a7.elim
    | panic i => exact a7.elim
    | outgrown => exact a7.elim
  refine (WF_sound hf hb hnt hrs hokv (fun b hb => hw b hb) hW).mono fun v lo w' hm hlo hp => ?_
  obtain ⟨pub, hpub, Z', μ', p, e, g', hw', hr, hR⟩ := hp
  refine ⟨Z', μ', p, e, ⟨g'.zok, fun b o ho => ?_⟩, hr, hR⟩
  obtain ⟨p1, p2⟩ := g'.mem b o ho
  refine ⟨fun hrw => ?_, p2⟩
  rcases hpub b (p1 hrw) with h1 | h1
  · exact .inl h1
  · exact .inr ⟨h1, p2.lt⟩

end Go.Eng
