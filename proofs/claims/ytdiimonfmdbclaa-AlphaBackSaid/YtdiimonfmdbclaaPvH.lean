import Derived.Test.YtdiimonfmdbclaaPvG
/-
  V is sound: code; functions.
-/
namespace Go.Eng
open Go.RowKit
set_option linter.unusedVariables false

section
variable {E : EnvP} {fz : List Nat} {ops : Array Oper}

theorem Cont.step {Z Z1 : Fz} {μ μ1 : Mem} {u u1 : UW} {KP : PSt → Mem → Prop} {K : St → UW → Prop} (h : Cont false Z μ u KP K) (e : Ext Z μ u.heap.size Z1 μ1) (hN : u.heap.size ≤ u1.heap.size) : Cont false Z1 μ1 u1 KP K :=
  fun Z' p' μ' s' u' r g w e' n _ k => h Z' p' μ' s' u' r g w (e.trans e' hN) (Nat.le_trans hN n) (fun h => by cases h) k

theorem undef_rep (Z : Fz) : Rep Z (.tup []) undef := Reps.toTup (vs := []) (Reps.nil Z)

theorem Vl_sound {QP : PSt → Mem → Prop} {Q : St → UW → Prop} : ∀ (l : List Oper) (p : PSt) (s : St) (μ : Mem) (u : UW) (Z : Fz), Rel2 Z p s → Good Z u μ → Wf u → Cont false Z μ u QP Q → Vl E fz ops QP l p μ → Wl E.er fz ops Q l s u
  | [], p, s, μ, u, Z, hr, hg, hw, hC, h => hC Z p μ s u hr hg hw hg.ext (Nat.le_refl _) (fun h => by cases h) h
  | o :: l, p, s, μ, u, Z, hr, hg, hw, hC, h => by
    have act : ∀ {p1 : PSt} {s1 : St}, Rel2 Z p1 s1 → V1 E false fz o p1 μ (fun p' μ' => Vl E fz ops QP l p' μ') → W1 E.er fz o s1 u (fun s' u' => Wl E.er fz ops Q l s' u') := fun hr1 h1 =>
      V1_sound hr1 hg hw (fun Z' p' μ' s' u' r g w e n _ k => Vl_sound l p' s' μ' u' Z' r g w (hC.step e n) k) h1
    have skip : ∀ {p1 : PSt} {s1 : St}, Rel2 Z p1 s1 → Vl E fz ops QP l (finP o p1 (.tup [])) μ → Wl E.er fz ops Q l (fin o s1 undef) u := fun hr1 h1 =>
      Vl_sound l _ _ μ u Z (hr1.fin o (undef_rep Z)) hg hw hC h1
    simp only [Vl] at h
    simp only [Wl]
    cases hgd : o.guard with
    | none => rw [hgd] at h; exact act hr h
    | some jb =>
      obtain ⟨j, b⟩ := jb
      rw [hgd] at h
      simp only at h ⊢
      cases hgs : gslot ops j with
      | none => rw [hgs] at h; exact h.elim
      | some g =>
        rw [hgs] at h
        simp only at h ⊢
        have hs := hr.slot g
        split at h
        · rename_i c he
          rw [he] at hs
          rw [hs.ofRaw.1]
          simp only
          have hT : Rel2 Z { p with σ := updP p.σ g (pB true) } { s with σ := upd s.σ g (.bool true) } := ⟨hr.D, RepF.upd hr.slot (.raw _ rfl rfl)⟩
          have hF : Rel2 Z { p with σ := updP p.σ g (pB false) } { s with σ := upd s.σ g (.bool false) } := ⟨hr.D, RepF.upd hr.slot (.raw _ rfl rfl)⟩
          cases c <;> cases b
          · exact act hF h
          · exact skip hF h
          · exact skip hT h
          · exact act hT h
        · rename_i vs he
          rw [he] at hs
          obtain ⟨ws, hv, _⟩ := hs.ofTup
          rw [hv]
          exact skip hr h
        · exact h.elim

def POk (ops : Array Oper) : Plan → Prop
  | .nil => True
  | .tk i p => (∀ o, ops[i]? = some o → takeable o = true) ∧ POk ops p
  | .ef i p => okAfter ops i p = true ∧ POk ops p
  | .ef2 i p j q => (okAfter ops i p = true ∧ POk ops p) ∧ (okAfter ops j q = true ∧ POk ops q)
  | .ef3 i p j q k r => (okAfter ops i p = true ∧ POk ops p) ∧ (okAfter ops j q = true ∧ POk ops q) ∧ (okAfter ops k r = true ∧ POk ops r)

theorem findTake_ok {listed : Array Bool} : ∀ {l : List Nat} {i : Nat}, findTake ops listed l = some i → ∀ o, ops[i]? = some o → takeable o = true
  | [], i, h => by simp [findTake] at h
  | j :: l, i, h => by
    simp only [findTake] at h
    intro o ho
    cases ho2 : ops[j]? with
    | none => rw [ho2] at h; exact findTake_ok h o ho
    | some oj =>
      rw [ho2] at h
      simp only at h
      cases hc : (takeable oj && Region.free .any ops listed j) with
      | true =>
        rw [hc] at h
        simp only [cond_true, Option.some.injEq] at h
        subst h
        rw [ho] at ho2; cases ho2
        simp only [Bool.and_eq_true] at hc
        exact hc.1
      | false => rw [hc] at h; exact findTake_ok h o ho

theorem planF_ok : ∀ {f : Nat} {listed : Array Bool} {p : Plan}, planF ops f listed = some p → POk ops p
  | 0, listed, p, h => by
    simp only [planF] at h
    split at h
    · cases h; trivial
    · cases h
  | f + 1, listed, p, h => by
    simp only [planF] at h
    split at h
    · cases h; trivial
    · split at h
      · rename_i j hj
        split at h
        · rename_i p' hp; cases h; exact ⟨findTake_ok hj, planF_ok hp⟩
        · cases h
      · split at h
        · split at h
          · rename_i p' hp
            cases hc : okAfter ops _ p' with
            | true => rw [hc] at h; cases h; exact ⟨hc, planF_ok hp⟩
            | false => rw [hc] at h; cases h
          · cases h
        · split at h
          · rename_i p' q' hp hq
            cases hc : (okAfter ops _ p' && okAfter ops _ q') with
            | true =>
              rw [hc] at h; cases h
              simp only [Bool.and_eq_true] at hc
              exact ⟨⟨hc.1, planF_ok hp⟩, hc.2, planF_ok hq⟩
            | false => rw [hc] at h; cases h
          · cases h
        · split at h
          · rename_i p' q' r' hp hq hr
            cases hc : (okAfter ops _ p' && okAfter ops _ q' && okAfter ops _ r') with
            | true =>
              rw [hc] at h; cases h
              simp only [Bool.and_eq_true] at hc
              exact ⟨⟨hc.1.1, planF_ok hp⟩, ⟨hc.1.2, planF_ok hq⟩, hc.2, planF_ok hr⟩
            | false => rw [hc] at h; cases h
          · cases h
        · cases h

theorem guarded_rep {Z : Fz} {o : Oper} {p : PSt} {s : St} {actP skipP : PSt → Prop} {act skip : St → Prop} (hr : Rel2 Z p s) (ha : ∀ p1 s1, Rel2 Z p1 s1 → actP p1 → act s1) (hs : ∀ p1 s1, Rel2 Z p1 s1 → skipP p1 → skip s1) (h : guardedP ops o p actP skipP) : guarded ops o s act skip := by
  unfold guardedP at h
  unfold guarded
  cases hgd : o.guard with
  | none => rw [hgd] at h; exact ha _ _ hr h
  | some jb =>
    obtain ⟨j, b⟩ := jb
    rw [hgd] at h
    simp only at h ⊢
    cases hgs : gslot ops j with
    | none => rw [hgs] at h; exact h.elim
    | some g =>
      rw [hgs] at h
      simp only at h ⊢
      have hsl := hr.slot g
      split at h
      · rename_i c he
        rw [he] at hsl
        rw [hsl.ofRaw.1]
        simp only
        have hT : Rel2 Z { p with σ := updP p.σ g (pB true) } { s with σ := upd s.σ g (.bool true) } := ⟨hr.D, RepF.upd hr.slot (.raw _ rfl rfl)⟩
        have hF : Rel2 Z { p with σ := updP p.σ g (pB false) } { s with σ := upd s.σ g (.bool false) } := ⟨hr.D, RepF.upd hr.slot (.raw _ rfl rfl)⟩
        cases c <;> cases b
        · exact ha _ _ hF h
        · exact hs _ _ hF h
        · exact hs _ _ hT h
        · exact ha _ _ hT h
      · rename_i vs he
        rw [he] at hsl
        obtain ⟨ws, hv, _⟩ := hsl.ofTup
        rw [hv]
        exact hs _ _ hr h
      · exact h.elim

theorem V1_new {q q' : Bool} {fz fz' : List Nat} {o : Oper} {p : PSt} {μ : Mem} {K : PSt → Mem → Prop} (hn : isNew o = true) (hp : privOp E.priv o = false) (h : V1 E q fz o p μ K) : V1 E q' fz' o p μ K := by
  unfold isNew at hn
  unfold privOp at hp
  unfold V1 at h ⊢
  split at hn
  · rename_i t ho
    simp only [ho] at h hp ⊢
    cases hz : (E.P.info? t).bind (·.zero) with
    | none => rw [hz] at h; exact h.elim
    | some z =>
      rw [hz] at h
      simp only at h ⊢
      obtain ⟨h1, h⟩ := bif_elim h
      rw [h1]
      simp only [cond_true]
      unfold newB at h ⊢
      cases hd : o.dst with
      | none => rw [hd] at h; exact h.elim
      | some k =>
        rw [hd] at h hp
        simp only at h hp ⊢
        rw [hp] at h ⊢
        exact h
  · rename_i t x ho
    simp only [ho] at h hp ⊢
    obtain ⟨h1, h⟩ := bif_elim h
    rw [h1]
    simp only [cond_true]
    unfold newB at h ⊢
    cases hd : o.dst with
    | none => rw [hd] at h; exact h.elim
    | some k =>
      rw [hd] at h hp
      simp only at h hp ⊢
      rw [hp] at h ⊢
      exact h
  · rename_i t len ps ho
    simp only [ho] at h ⊢
    exact h
  · cases hn

theorem stepEP_sound {Z : Fz} {u0 : UW} {i : Nat} {p : PSt} {s : St} {μ : Mem} {u : UW} {KP : PSt → Mem → Prop} {K : St → UW → Prop} (hr : Rel2 Z p s) (hg : Good Z u μ) (hw : Wf u) (hsm : hard ops i = true → Same u0 u)
    (hK : ∀ Z' p' μ' s' u', Rel2 Z' p' s' → Good Z' u' μ' → Wf u' → Ext Z μ u.heap.size Z' μ' → u.heap.size ≤ u'.heap.size → (hard ops i = true → Same u0 u') → (newI ops i = true → Same u0 u → Same u0 u') → KP p' μ' → K s' u')
    (h : stepEP E fz ops i p μ KP) : stepE E.er fz ops u0 i s u K := by
  unfold stepEP at h
  unfold stepE
  cases ho : ops[i]? with
  | none => rw [ho] at h; exact h.elim
  | some o =>
    rw [ho] at h
    simp only at h ⊢
    have hpv : privOp E.er.priv o = privOp E.priv o := rfl
    rw [hpv]
    cases hp : privOp E.priv o with
    | true => rw [hp] at h; exact h.elim
    | false =>
      rw [hp] at h
      simp only [cond_false] at h ⊢
      refine guarded_rep hr (fun p1 s1 r1 h1 => ?_) (fun p1 s1 r1 h1 => ?_) h
      · cases hl : hard ops i with
        | true =>
          rw [hl] at h1
          simp only [cond_true] at h1 ⊢
          rw [r1.D] at h1
          refine V1_sound r1 hg hw (fun Z' p' μ' s' u' a1 a2 a3 a4 a5 a6 a7 => ?_) h1
          have hs' : Same u0 u' := belowNext (hsm hl) (a6 rfl)
          exact ⟨hs', hK Z' p' μ' s' u' a1 a2 a3 a4 a5 (fun _ => hs') (fun _ _ => hs') a7⟩
        | false =>
          rw [hl] at h1
          simp only [cond_false] at h1 ⊢
          cases hn : newI ops i with
          | true =>
            have hnw : isNew o = true := by unfold newI at hn; rw [ho] at hn; exact hn
            exact V1_sound r1 hg hw (fun Z' p' μ' s' u' a1 a2 a3 a4 a5 a6 a7 => hK Z' p' μ' s' u' a1 a2 a3 a4 a5 (fun h => by rw [hl] at h; cases h) (fun _ hs => belowNext hs (a6 rfl)) a7) (V1_new hnw hp h1)
          | false =>
            exact V1_sound r1 hg hw (fun Z' p' μ' s' u' a1 a2 a3 a4 a5 a6 a7 => hK Z' p' μ' s' u' a1 a2 a3 a4 a5 (fun h => by rw [hl] at h; cases h) (fun h => by rw [hn] at h; cases h) a7) h1
      · exact hK Z _ μ _ u (r1.fin o (undef_rep Z)) hg hw hg.ext (Nat.le_refl _) hsm (fun _ hs => hs) h1

theorem afterE {i : Nat} {pl pl' : Plan} {u0 u u' : UW} (hok : okAfter ops i pl = true) (hsm : Same u0 u ∨ anyLate ops pl' = false) (hr : anyLate ops pl' = false → anyLate ops pl = false) (a6 : hard ops i = true → Same u0 u') (a8 : newI ops i = true → Same u0 u → Same u0 u') : Same u0 u' ∨ anyLate ops pl = false := by
  unfold okAfter at hok
  cases hl : hard ops i with
  | true => exact .inl (a6 hl)
  | false =>
    cases hn : newI ops i with
    | true => exact hsm.imp (a8 hn) hr
    | false =>
      simp only [hl, hn, Bool.false_or, Bool.and_eq_true, Bool.not_eq_true'] at hok
      exact .inr hok.2

theorem Vd_sound {QP : PSt → Mem → Prop} {Q : St → UW → Prop} {Z0 : Fz} {u0 : UW} {μ0 : Mem} (hg0 : Good Z0 u0 μ0) : ∀ (pl : Plan) (c : Bool) (p : PSt) (s : St) (μ : Mem) (u : UW) (Z : Fz), POk ops pl → Rel2 Z p s → Good Z u μ → Wf u → Z0.le Z → (c = true → Good Z u0 μ0) → (Same u0 u ∨ anyLate ops pl = false) →
    Cont false Z μ u QP Q → Vd E fz ops μ0 QP c pl p μ → Wd E.er fz ops u0 Q pl s u
  | .nil, c, p, s, μ, u, Z, _, hr, hg, hw, _, _, _, hC, h => hC Z p μ s u hr hg hw hg.ext (Nat.le_refl _) (fun h => by cases h) h
  | .tk i pl, c, p, s, μ, u, Z, hok, hr, hg, hw, hz, hc, hsm, hC, h => by
    simp only [Vd, stepTP] at h
    simp only [Wd, stepT]
    cases ho : ops[i]? with
    | none => rw [ho] at h; exact h.elim
    | some o =>
      rw [ho] at h
      simp only at h ⊢
      have next : ∀ p' s', Rel2 Z p' s' → Vd E fz ops μ0 QP c pl p' μ → Wd E.er fz ops u0 Q pl s' u := fun p' s' r k => Vd_sound hg0 pl c p' s' μ u Z hok.2 r hg hw hz hc hsm hC k
      refine guarded_rep hr (fun p1 s1 r1 h1 => ?_) (fun p1 s1 r1 h1 => next _ _ (r1.fin o (undef_rep Z)) h1) h
      obtain ⟨hcf, h1⟩ := bif_elim h1
      cases hl : isLoadO o with
      | false => exact V1_pure (KP := fun p' _ => Vd E fz ops μ0 QP c pl p' μ) (K := fun s' _ => Wd E.er fz ops u0 Q pl s' u) r1 (hok.1 o ho) hl next h1
      | true =>
        refine load_sound (KP := fun p' _ => Vd E fz ops μ0 QP c pl p' μ) (K := fun s' _ => Wd E.er fz ops u0 Q pl s' u) (Zr := Z0) r1 hg0 hz ?_ hl next h1
        cases c with
        | true => exact .inr (hc rfl)
        | false => simp only [Bool.false_or, Bool.not_eq_true'] at hcf; exact .inl hcf
  | .ef i pl, c, p, s, μ, u, Z, hok, hr, hg, hw, hz, hc, hsm, hC, h => by
    have ok1 := hok.1
    refine stepEP_sound hr hg hw (fun hl => hsm.elim id fun hn => ?_) (fun Z' p' μ' s' u' a1 a2 a3 a4 a5 a6 a8 a7 => Vd_sound hg0 pl false p' s' μ' u' Z' hok.2 a1 a2 a3 (hz.trans a4.le) (fun h => by cases h) ?_ (hC.step a4 a5) a7) h
    · simp only [anyLate, hl, Bool.true_or] at hn; cases hn
    · exact afterE ok1 hsm (fun hn => by simp only [anyLate, Bool.or_eq_false_iff] at hn; exact hn.2) a6 a8
  | .ef2 i pl j pl2, c, p, s, μ, u, Z, hok, hr, hg, hw, hz, hc, hsm, hC, h => by
    obtain ⟨⟨ok1, ok1'⟩, ok2, ok2'⟩ := hok
    refine ⟨stepEP_sound hr hg hw (fun hl => hsm.elim id fun hn => ?_) (fun Z' p' μ' s' u' a1 a2 a3 a4 a5 a6 a8 a7 => Vd_sound hg0 pl false p' s' μ' u' Z' ok1' a1 a2 a3 (hz.trans a4.le) (fun h => by cases h) ?_ (hC.step a4 a5) a7) h.1,
      stepEP_sound hr hg hw (fun hl => hsm.elim id fun hn => ?_) (fun Z' p' μ' s' u' a1 a2 a3 a4 a5 a6 a8 a7 => Vd_sound hg0 pl2 false p' s' μ' u' Z' ok2' a1 a2 a3 (hz.trans a4.le) (fun h => by cases h) ?_ (hC.step a4 a5) a7) h.2⟩
    · simp only [anyLate, hl, Bool.true_or] at hn; cases hn
    · exact afterE ok1 hsm (fun hn => by simp only [anyLate, Bool.or_eq_false_iff] at hn; exact hn.1.2) a6 a8
    · simp only [anyLate, hl, Bool.true_or, Bool.or_true] at hn; cases hn
    · exact afterE ok2 hsm (fun hn => by simp only [anyLate, Bool.or_eq_false_iff] at hn; exact hn.2.2) a6 a8
  | .ef3 i pl j pl2 k pl3, c, p, s, μ, u, Z, hok, hr, hg, hw, hz, hc, hsm, hC, h => by
    obtain ⟨⟨ok1, ok1'⟩, ⟨ok2, ok2'⟩, ok3, ok3'⟩ := hok
    refine ⟨stepEP_sound hr hg hw (fun hl => hsm.elim id fun hn => ?_) (fun Z' p' μ' s' u' a1 a2 a3 a4 a5 a6 a8 a7 => Vd_sound hg0 pl false p' s' μ' u' Z' ok1' a1 a2 a3 (hz.trans a4.le) (fun h => by cases h) ?_ (hC.step a4 a5) a7) h.1,
      stepEP_sound hr hg hw (fun hl => hsm.elim id fun hn => ?_) (fun Z' p' μ' s' u' a1 a2 a3 a4 a5 a6 a8 a7 => Vd_sound hg0 pl2 false p' s' μ' u' Z' ok2' a1 a2 a3 (hz.trans a4.le) (fun h => by cases h) ?_ (hC.step a4 a5) a7) h.2.1,
      stepEP_sound hr hg hw (fun hl => hsm.elim id fun hn => ?_) (fun Z' p' μ' s' u' a1 a2 a3 a4 a5 a6 a8 a7 => Vd_sound hg0 pl3 false p' s' μ' u' Z' ok3' a1 a2 a3 (hz.trans a4.le) (fun h => by cases h) ?_ (hC.step a4 a5) a7) h.2.2⟩
    · simp only [anyLate, hl, Bool.true_or] at hn; cases hn
    · exact afterE ok1 hsm (fun hn => by simp only [anyLate, Bool.or_eq_false_iff] at hn; exact hn.1.1.2) a6 a8
    · simp only [anyLate, hl, Bool.true_or, Bool.or_true] at hn; cases hn
    · exact afterE ok2 hsm (fun hn => by simp only [anyLate, Bool.or_eq_false_iff] at hn; exact hn.1.2.2) a6 a8
    · simp only [anyLate, hl, Bool.true_or, Bool.or_true] at hn; cases hn
    · exact afterE ok3 hsm (fun hn => by simp only [anyLate, Bool.or_eq_false_iff] at hn; exact hn.2.2) a6 a8

theorem look_map {α β : Type} (f : α → β) : ∀ (l : List (Nat × α)) (i : Nat), look (l.map fun x => (x.1, f x.2)) i = (look l i).map f
  | [], _ => rfl
  | (k, x) :: l, i => by
    simp only [List.map_cons, look]
    cases Nat.beq k i
    · exact look_map f l i
    · rfl

end
end Go.Eng
