import Derived.Test.YtfliaomdedfleaaEngN
/-
  The engine, twelfth part: W is sound; from W to a function's contract.
-/
namespace Go.Eng
open Go.RowKit

section
variable {E : Env} {C : Ctx}

theorem Wl_sound {fz ws : List Nat} {ops : Array Oper} {Q : Exit → St → UW → Prop} {st0 : St} (hok : ∀ o ∈ ops.toList, okOper C.n o = true) (hws : ∀ o ∈ ops.toList, ∀ t, o.dst = some t → t ∈ ws) :
    ∀ (l : List Oper) (i : Nat), ops.toList.drop i = l → ∀ (st : St) (u : UW) (a : Act) (wa : World) (θ : Nat → Nat), Inv C a wa st u θ → Pres C.n fz ws st0 st → Wl E fz ops (Q .normal) l st u →
      wpOps E.P ops (QW C fz ws st0 Q) (List.range' i l.length) a wa
  | [], i, _, st, u, a, wa, θ, hI, hP, h => ⟨st, u, θ, hI, hP, h⟩
  | o :: l, i, hd, st, u, a, wa, θ, hI, hP, h => by
    have hi : ops.toList[i]? = some o := by
      have := congrArg (·[0]?) hd
      simpa using this
    have hmem : o ∈ ops.toList := List.mem_of_getElem? hi
    have hoi : ops[i]? = some o := by simpa using hi
    have hd' : ops.toList.drop (i + 1) = l := by
      have := congrArg (List.drop 1) hd
      simpa [List.drop_drop, Nat.add_comm] using this
    have hoko := hok o hmem
    have presTo : ∀ {s s' : St}, Pres C.n fz ws st0 s → Pres C.n fz o.dst.toList s s' → Pres C.n fz ws st0 s' := by
      intro s s' h1 h2
      have := h1.trans h2
      refine this.mono (fun _ h => h) fun x hx => ?_
      rw [List.mem_append] at hx
      rcases hx with hx | hx
      · exact hx
      · cases hdst : o.dst with
        | none => simp [hdst] at hx
        | some d => simp only [hdst, Option.toList, List.mem_singleton] at hx; exact hws o hmem x (by rw [hdst, hx])
    have go : ∀ {s : St}, Inv C a wa s u θ → Pres C.n fz ws st0 s → W1 E fz o s u (fun st' w' => Wl E fz ops (Q .normal) l st' w') → o.wp E.P a wa (wpOps E.P ops (QW C fz ws st0 Q) (List.range' (i + 1) l.length)) (QW C fz ws st0 Q) := by
      intro s hIs hPs h1
      have := W1_sound (Q := QW C fz ws st0 Q) hoko hIs h1
      refine Oper.wp_mono (fun a' w' hp => ?_) this
      obtain ⟨st', u', θ', hI', hP', _, _, hW⟩ := hp
      exact Wl_sound hok hws l (i + 1) hd' st' u' a' w' θ' hI' (presTo hPs hP') hW
    have skip : ∀ {s : St}, Inv C a wa s u θ → Pres C.n fz ws st0 s → Wl E fz ops (Q .normal) l (fin o s undef) u → wpOps E.P ops (QW C fz ws st0 Q) (List.range' (i + 1) l.length) (a.put o.dst undef) wa := by
      intro s hIs hPs h1
      exact Wl_sound hok hws l (i + 1) hd' _ u _ wa θ (hIs.finP o.dst (dst_lt hoko) rfl) (presTo hPs (Pres.fin s o.dst (dst_lt hoko) hI.n_le undef)) h1
    simp only [List.length_cons, List.range'_succ, wpOps, hoi]
    simp only [Wl] at h
    cases hg : o.guard with
    | none =>
      simp only [hg] at h
      have hw : Region.wanted o (yielded ops a.tmps) = true := by simp [Region.wanted, hg]
      rw [if_pos hw]
      exact .inl (go hI hP h)
    | some jb =>
      obtain ⟨j, b⟩ := jb
      simp only [hg] at h
      cases hgs : gslot ops j with
      | none => simp only [hgs] at h
      | some g =>
        simp only [hgs] at h
        have hgn : g < C.n := by
          unfold gslot at hgs
          cases hj : ops[j]? with
          | none => simp [hj] at hgs
          | some oj =>
            simp only [hj, Option.bind_some] at hgs
            exact dst_lt (hok oj (by have : ops.toList[j]? = some oj := by simpa using hj
                                     exact List.mem_of_getElem? this)) g hgs
        have hyl : yielded ops a.tmps j = match a.tmps.getD g undef with | .bool x => some x | _ => none := by
          unfold yielded
          unfold gslot at hgs
          rw [hgs, Option.bind_some, getD_some hI.size hgn]
          cases a.tmps.getD g undef <;> rfl
        have hslot := hI.slots g hgn
        split at h
        · rename_i c hc
          rw [hc, R_plain rfl] at hslot
          rw [hslot] at hyl
          have hw : Region.wanted o (yielded ops a.tmps) = (c == b) := by
            simp only [Region.wanted, hg, hyl]
            cases c <;> cases b <;> rfl
          rw [hw]
          cases c with
          | true =>
            simp only [CIf] at h
            rw [upd_self hc] at h
            cases b with
            | true => simp only at h; exact .inl (go hI hP h)
            | false => simp only at h; exact skip hI hP h
          | false =>
            simp only [CIf] at h
            rw [upd_self hc] at h
            cases b with
            | true => simp only at h; exact skip hI hP h
            | false => simp only at h; exact .inl (go hI hP h)
        · rename_i vs hc
          rw [hc, R_plain rfl] at hslot
          rw [hslot] at hyl
          have hw : Region.wanted o (yielded ops a.tmps) = false := by simp [Region.wanted, hg, hyl]
          rw [hw]
          exact skip hI hP h
        · exact h.elim

def okCode (n : Nat) : Code → Bool
  | .region _ ops _ => ops.toList.all (okOper n)
  | .seq a b => okCode n a && okCode n b
  | .cond c a b => okOp n c && okCode n a && okCode n b
  | .block _ a => okCode n a
  | .loop a => okCode n a
  | _ => true

/-- A loop, with something beside the machine's state that goes down. -/
theorem wp_loopG {P : Program} {c : Code} {Q : Exit → Act → World → Prop} (I : Nat → Act → World → Prop)
    (round : ∀ n a w, I n a w → c.wp P (Exit.then (fun a' w' => ∃ m, m < n ∧ I m a' w') Q) a w) : ∀ (n : Nat) (a : Act) (w : World), I n a w → (Code.loop c).wp P Q a w := by
  intro n a w h0 b k cs
  have key : ∀ n a w, I n a w → ∃ e a' w', Q e a' w' ∧ Arrives P (lone (b.at a (.code c :: .inLoop c :: k)) cs w) b k cs e a' w' := by
    intro n
    induction n using Nat.strongRecOn with
    | _ n ih =>
      intro a w hI
      obtain ⟨e, a₁, w₁, hq, harr⟩ := round n a w hI b (.inLoop c :: k) cs
      cases e with
      | normal =>
        obtain ⟨m, hlt, hI₁⟩ := hq
        obtain ⟨e₂, a₂, w₂, hq₂, harr₂⟩ := ih m hlt a₁ w₁ hI₁
        exact ⟨e₂, a₂, w₂, hq₂, .of_steps (Steps.trans harr (.one step_inLoop)) harr₂⟩
      | exit id => exact ⟨_, a₁, w₁, hq, .pass (x := .inLoop c) rfl (fun _ _ => .inl (by simp)) harr⟩
      | goto l => exact ⟨_, a₁, w₁, hq, .pass (x := .inLoop c) rfl (fun _ _ => .inl (by simp)) harr⟩
      | ret => exact ⟨_, a₁, w₁, hq, .pass (x := .inLoop c) rfl (fun _ _ => .inl (by simp)) harr⟩
      | panic ch => exact ⟨_, a₁, w₁, hq, .pass (x := .inLoop c) rfl (fun _ _ => .inl (by simp)) harr⟩
      | outgrown => exact ⟨_, a₁, w₁, hq, .pass (x := .inLoop c) rfl (fun _ _ => .inl (by simp)) harr⟩
  obtain ⟨e, a', w', hq, harr⟩ := key n a w h0
  exact ⟨e, a', w', hq, .of_steps (.one step_loop) harr⟩

theorem range'_range (n : Nat) : List.range' 0 n = List.range n := (List.range_eq_range').symm

theorem W_sound (c : Code) (hokc : okCode C.n c = true) : ∀ (fz : List Nat) (Q : Exit → St → UW → Prop) (st : St) (u : UW) (a : Act) (wa : World) (θ : Nat → Nat), Inv C a wa st u θ → W E fz c Q st u →
    c.wp E.P (QW C fz (writes c) st Q) a wa := by
  induction c with
  | skip => intro fz Q st u a wa θ hI h; exact wp_skip ⟨st, u, θ, hI, Pres.refl _ _ _ _, h⟩
  | ret => intro fz Q st u a wa θ hI h; exact wp_ret ⟨st, u, θ, hI, Pres.refl _ _ _ _, h⟩
  | exit i => intro fz Q st u a wa θ hI h; exact wp_exit ⟨st, u, θ, hI, Pres.refl _ _ _ _, h⟩
  | region id ops draw =>
    intro fz Q st u a wa θ hI h
    simp only [okCode, List.all_eq_true] at hokc
    cases draw with
    | true =>
      simp only [W] at h
      obtain ⟨hm, h⟩ := bif_elim h
      cases hp : mkPlan ops with
      | none => simp only [hp] at h
      | some p =>
        simp only [hp] at h
        exact Wd_region hm hokc (fun o ho t ht => by simp only [writes, List.mem_filterMap]; exact ⟨o, ho, ht⟩) hp hI h
    | false =>
      simp only [W] at h
      refine wp_region ?_
      have := Wl_sound (E := E) (Q := Q) (st0 := st) (ws := writes (.region id ops false)) hokc (fun o ho t ht => by simp only [writes, List.mem_filterMap]; exact ⟨o, ho, ht⟩) ops.toList 0 rfl st u a wa θ hI (Pres.refl _ _ _ _) h
      rw [Array.length_toList, range'_range] at this
      exact this
  | seq x y ihx ihy =>
    intro fz Q st u a wa θ hI h
    simp only [okCode, Bool.and_eq_true] at hokc
    simp only [W] at h
    refine wp_seq ?_
    split at h
    · refine wp_mono (ihx hokc.1 fz _ st u a wa θ hI h) fun e a' wa' hq => ?_
      obtain ⟨st', u', θ', hI', hP', hq⟩ := hq
      cases e with
      | normal =>
        refine wp_mono (ihy hokc.2 fz Q st' u' a' wa' θ' hI' hq) fun e a'' wa'' hq => ?_
        obtain ⟨st'', u'', θ'', hI'', hP'', hq⟩ := hq
        exact ⟨st'', u'', θ'', hI'', hP'.trans hP'', hq⟩
      | exit i => exact ⟨st', u', θ', hI', hP'.mono (fun _ h => h) (fun _ h => List.mem_append_left _ h), hq⟩
      | goto i => exact ⟨st', u', θ', hI', hP'.mono (fun _ h => h) (fun _ h => List.mem_append_left _ h), hq⟩
      | ret => exact ⟨st', u', θ', hI', hP'.mono (fun _ h => h) (fun _ h => List.mem_append_left _ h), hq⟩
      | panic i => exact ⟨st', u', θ', hI', hP'.mono (fun _ h => h) (fun _ h => List.mem_append_left _ h), hq⟩
      | outgrown => exact ⟨st', u', θ', hI', hP'.mono (fun _ h => h) (fun _ h => List.mem_append_left _ h), hq⟩
    · rename_i cut _
      obtain ⟨hl, J, hA, hB⟩ := bif_elim h
      have weak : ∀ {s : St}, Pres C.n (freeze fz st.D cut) (writes x) st s → Pres C.n fz (writes x ++ writes y) st s := fun hp =>
        hp.mono (fun z hz => List.mem_append_left _ hz) (fun z hz => List.mem_append_left _ hz)
      refine wp_mono (ihx hokc.1 (freeze fz st.D cut) _ st u a wa θ hI hA) fun e a' wa' hq => ?_
      obtain ⟨st', u', θ', hI', hP', hq⟩ := hq
      cases e with
      | normal =>
        simp only [thenQ, toJ] at hq
        obtain ⟨hs, hq⟩ := bif_elim hq
        cases hgl : getLive st' cut.live with
        | none => simp only [hgl] at hq
        | some s =>
          simp only [hgl] at hq
          obtain ⟨hIm, hPm⟩ := mix_ok hI hI' hP' hl hs hgl
          refine wp_mono (ihy hokc.2 fz Q _ u' a' wa' θ' hIm (hB s u' hq)) fun e a'' wa'' hq => ?_
          obtain ⟨st'', u'', θ'', hI'', hP'', hq⟩ := hq
          exact ⟨st'', u'', θ'', hI'', hPm.trans hP'', hq⟩
      | exit i => exact ⟨st', u', θ', hI', weak hP', hq⟩
      | goto i => exact ⟨st', u', θ', hI', weak hP', hq⟩
      | ret => exact ⟨st', u', θ', hI', weak hP', hq⟩
      | panic i => exact ⟨st', u', θ', hI', weak hP', hq⟩
      | outgrown => exact ⟨st', u', θ', hI', weak hP', hq⟩
  | cond c x y ihx ihy =>
    intro fz Q st u a wa θ hI h
    simp only [okCode, Bool.and_eq_true] at hokc
    obtain ⟨⟨hc, hx⟩, hy⟩ := hokc
    simp only [W] at h
    split at h
    · rename_i t ht
      refine wp_cond (ev_val hI hc ht rfl) ?_
      cases t with
      | true =>
        refine wp_mono (ihx hx fz Q st u a wa θ hI h) fun e a' wa' hq => ?_
        obtain ⟨st', u', θ', hI', hP', hq⟩ := hq
        exact ⟨st', u', θ', hI', hP'.mono (fun _ h => h) (fun _ h => List.mem_append_left _ h), hq⟩
      | false =>
        refine wp_mono (ihy hy fz Q st u a wa θ hI h) fun e a' wa' hq => ?_
        obtain ⟨st', u', θ', hI', hP', hq⟩ := hq
        exact ⟨st', u', θ', hI', hP'.mono (fun _ h => h) (fun _ h => List.mem_append_right _ h), hq⟩
    · exact h.elim
  | block id x ih =>
    intro fz Q st u a wa θ hI h
    simp only [W] at h
    refine wp_block (wp_mono (ih hokc fz _ st u a wa θ hI h) fun e a' wa' hq => ?_)
    obtain ⟨st', u', θ', hI', hP', hq⟩ := hq
    cases e with
    | exit i =>
      simp only [blockQ, Bool.cond_eq_ite, beq_iff] at hq
      simp only [Exit.inBlock]
      split at hq
      · rename_i e; rw [if_pos e]; exact ⟨st', u', θ', hI', hP', hq⟩
      · rename_i e; rw [if_neg e]; exact ⟨st', u', θ', hI', hP', hq⟩
    | normal => exact ⟨st', u', θ', hI', hP', hq⟩
    | goto i => exact ⟨st', u', θ', hI', hP', hq⟩
    | ret => exact ⟨st', u', θ', hI', hP', hq⟩
    | panic i => exact ⟨st', u', θ', hI', hP', hq⟩
    | outgrown => exact ⟨st', u', θ', hI', hP', hq⟩
  | loop x ih =>
    intro fz Q st u a wa θ hI h
    simp only [W] at h
    split at h
    · exact h.elim
    · rename_i cut _
      obtain ⟨hl, h⟩ := bif_elim h
      simp only [toJ] at h
      obtain ⟨hs, h⟩ := bif_elim h
      cases hgl : getLive st cut.live with
      | none => simp only [hgl] at h
      | some s0 =>
        simp only [hgl] at h
        obtain ⟨I, μ, hI0, hround⟩ := h
        have hP0 : Pres C.n (freeze fz st.D cut) (writes x) st st := Pres.refl _ _ _ _
        obtain ⟨hIm, hPm⟩ := mix_ok hI hI hP0 hl hs hgl
        refine wp_loopG (fun n a' wa' => ∃ s u' θ', Inv C a' wa' (mix st (writes x) cut s) u' θ' ∧ I s u' ∧ μ s u' = n ∧ Pres C.n fz (writes x) st (mix st (writes x) cut s)) ?_ (μ s0 u) a wa ⟨s0, u, θ, hIm, hI0, rfl, hPm⟩
        intro n a' wa' hh
        obtain ⟨s, u', θ', hI', hIs, rfl, hPs⟩ := hh
        have hb := hround s u' hIs
        refine wp_mono (ih hokc _ _ _ u' a' wa' θ' hI' hb) fun e a'' wa'' hq => ?_
        obtain ⟨st2, u2, θ2, hI2, hP2, hq⟩ := hq
        have hP2' : Pres C.n fz (writes x) st st2 := by
          have := hPs.trans (hP2.mono (fz' := fz) (fun z hz => List.mem_append_left _ hz) (fun z hz => hz))
          exact this.mono (fun _ h => h) (fun z hz => by rw [List.mem_append] at hz; exact hz.elim id id)
        cases e with
        | normal =>
          simp only [thenQ, toJ] at hq
          obtain ⟨hs2, hq⟩ := bif_elim hq
          cases hgl2 : getLive st2 cut.live with
          | none => simp only [hgl2] at hq
          | some s2 =>
            simp only [hgl2] at hq
            have hfr : Pres C.n (freeze fz st.D cut) (writes x) st st2 := by
              have h1 : Pres C.n (freeze fz st.D cut) (writes x) st (mix st (writes x) cut s) := ⟨hPs.slot, hPs.D, fun k hk m hm j hj => ?_⟩
              · have := h1.trans hP2
                exact this.mono (fun _ h => h) (fun z hz => by rw [List.mem_append] at hz; exact hz.elim id id)
              · exact (mix_frz hI hl (writes x) s) k hk m hm j hj
            obtain ⟨hIm2, hPm2⟩ := mix_ok hI hI2 hfr hl hs2 hgl2
            exact ⟨μ s2 u2, hq.2, s2, u2, θ2, hIm2, hq.1, rfl, hPm2⟩
        | exit i => exact ⟨st2, u2, θ2, hI2, hP2', hq⟩
        | goto i => exact ⟨st2, u2, θ2, hI2, hP2', hq⟩
        | ret => exact ⟨st2, u2, θ2, hI2, hP2', hq⟩
        | panic i => exact ⟨st2, u2, θ2, hI2, hP2', hq⟩
        | outgrown => exact ⟨st2, u2, θ2, hI2, hP2', hq⟩
  | rangeFunc f ps x y ihx ihy => intro fz Q st u a wa θ hI h; exact h.elim
  | scope x ih => intro fz Q st u a wa θ hI h; exact h.elim
  | label l => intro fz Q st u a wa θ hI h; exact h.elim
  | goto l => intro fz Q st u a wa θ hI h; exact h.elim
  | refuse s => intro fz Q st u a wa θ hI h; exact h.elim

end
end Go.Eng
