import Derived.Test.YtdiimonfmdbclaaEngO
/-
  The engine, tenth part: calls; W1 is sound.
-/
namespace Go.Eng
open Go.RowKit

section
variable {E : Env} {C : Ctx} {a : Act} {wa : World} {st : St} {u : UW} {θ : Nat → Nat} {fz : List Nat} {o : Oper} {K : St → UW → Prop} {Q : Exit → Act → World → Prop}

theorem run_callFunc {P : Program} {g : FuncId} {args : Array Value} {w : World} (h : callable P g = true) : (callFunc g args).run P w = .ok (.enter g args) w := by
  unfold callable at h
  cases hf : P.funcs[g]? with
  | none => simp [hf] at h
  | some fn =>
    simp only [hf, Bool.and_eq_true, Bool.not_eq_true'] at h
    obtain ⟨h1, h2⟩ := h
    cases hb : fn.body with
    | none => simp [hb] at h2
    | some c =>
      simp only [callFunc, Sem.run_bind, run_program, Result.andThen_ok, hf, h1, hb, Bool.false_eq_true, if_false, Option.isNone_some, Sem.run_pure]

theorem exV_elim {P : Program} {t : TypeId} {F : Value → Prop} (h : exV P t F) : ∃ v, plain v = true ∧ F v := by
  unfold exV at h
  cases hk : kinds P t with
  | none => simp only [hk] at h
  | some ks =>
    simp only [hk] at h
    obtain ⟨vs, hl, hp, h⟩ := exL_elim h
    obtain ⟨_, _, h2⟩ := kinds_spec hk
    exact ⟨_, mkV_plain hp (h2.imp id fun h => by omega), h⟩

theorem exVs_elim {P : Program} : ∀ {ts : List TypeId} {F : List Value → Prop}, exVs P ts F → ∃ vs, F vs
  | [], _, h => ⟨[], h⟩
  | t :: ts, F, h => by
    obtain ⟨v, _, h⟩ := exV_elim h
    obtain ⟨vs, h⟩ := exVs_elim h
    exact ⟨_, h⟩

theorem exR_elim {P : Program} {t : TypeId} {F : Value → Prop} (h : exR P t F) : ∃ v, plain v = true ∧ F v := by
  unfold exR at h
  split at h
  · obtain ⟨vs, h⟩ := exVs_elim h
    exact ⟨_, rfl, h⟩
  · exact exV_elim h

theorem Inv.ret {F : Nat → Prop} {w' wr : World} (hI : Inv C a wa st u θ) (hF : ∀ b, F b → u.pub b) (hout : Out F u.toWorld wa w' wr) : Inv C a wr st (u.ret wa.heap.size w') θ := by
  refine hI.world hF hout.mod hout.sees hout.umod hout.hid ?_ ?_
  · intro b hb
    rcases hb with hb | ⟨_, hb⟩
    · exact Nat.lt_of_lt_of_le (hI.pubs b hb) hout.mod.size
    · exact Nat.lt_of_lt_of_le hb hout.sees.size
  · intro b hb hlt
    rcases hb with hb | ⟨hb, _⟩
    · exact hb
    · omega

theorem CallV_iff {P : Program} {f : Value} {args : List Value} {u : UW} {K : Value → UW → Prop} :
    CallV P f args u K ↔ ∃ F : Nat → Prop, (∀ b, F b → u.pub b) ∧ ValB P f args u.toWorld F fun v lo w' => K v (u.ret lo w') := by
  unfold CallV
  split
  · rename_i g first captured
    constructor
    · intro h
      obtain ⟨hc, F, hF, h⟩ := bif_elim h
      exact ⟨F, hF, fun w1 hs => ⟨hc, h w1 hs⟩⟩
    · rintro ⟨F, hF, h⟩
      have hc : callable P g = true := (h u.toWorld (Sees.refl _)).1
      rw [hc]
      exact ⟨F, hF, fun w1 hs => (h w1 hs).2⟩
  · exact Iff.rfl

theorem s_call {f : Operand} {args : Array Operand} {ts : Array TypeId} (ho : o.op = .call ⟨.value f, args, ts⟩) (hok : okOper C.n o = true) (hI : Inv C a wa st u θ)
    (h : bif args.toList.all (fun x => plain (ev st.σ x)) then
        CallV E.P (ev st.σ f) (args.toList.map (ev st.σ)) u fun v w' => exR E.P o.type fun v' => v = v' ∧ K (fin o st v') w' else False) : Snd E C fz o st θ K Q a wa := by
  obtain ⟨hp, h⟩ := bif_elim h
  have kf : okOp C.n f = true := opd hok (by simp [ho, Op.operands, Call.operands])
  have ka : ∀ x ∈ args.toList, okOp C.n x = true := fun x hx => opd hok (by simp [ho, Op.operands, Call.operands]; right; simpa using hx)
  obtain ⟨F, hF, h⟩ := CallV_iff.1 h
  have h := h wa hI.below
  have hea := arr_evs hI ka hp
  have done : ∀ (e : Ending) (wr : World), (∃ v w', e = .returned v ∧ Out F u.toWorld wa w' wr ∧ exR E.P o.type fun v' => v = v' ∧ K (fin o st v') (u.ret wa.heap.size w')) →
      match e with
      | .returned v => PostW C fz o st θ (privOp E.priv o) K (a.put o.dst v) wr
      | .panicked chain => Q (.panic chain) a wr
      | .outgrown => LetsOut Q := by
    rintro e wr ⟨v, w', rfl, hout, hK⟩
    obtain ⟨v', hpv, rfl, hK⟩ := exR_elim hK
    exact post_finP hok (hI.ret hF hout) hpv hK
  unfold VCalls at h
  split at h
  · rename_i g first captured hf
    obtain ⟨hc, h⟩ := h
    have hef := ev_val hI kf hf rfl
    have hrun : (execOp a.eval o).run E.P wa = .ok (.enter g (first.toList ++ args.toList.map (ev st.σ) ++ captured.toList).toArray) wa := by
      simp only [execOp, ho, resolve, hef, hea, Deferred.ofValue, Sem.run_bind, Sem.run_pure, Result.andThen_ok, invoke]
      rw [run_callFunc hc]
      congr 2
      apply Array.toList_inj.1
      simp
    unfold Snd
    rw [hrun]
    refine ⟨fun h => (by cases h), callsIn_wide.2 (h.mono fun e wr hpost => ?_)⟩
    have := done e wr hpost
    cases e <;> exact this
  · rename_i l first captured hf
    obtain ⟨rfl, rfl, r, hr, hlen, h⟩ := h
    have hef := ev_val hI kf hf rfl
    have hrun : (execOp a.eval o).run E.P wa = .ok (.round l r.fn ((r.params.zip (args.toList.map (ev st.σ)).toArray).foldl (fun t (p, v) => t.setIfInBounds p v) r.tmps) r.assign r.body) wa := by
      simp only [execOp, ho, resolve, hef, hea, Deferred.ofValue, Sem.run_bind, Sem.run_pure, Result.andThen_ok, invoke]
      rw [show (#[] ++ (args.toList.map (ev st.σ)).toArray) = (args.toList.map (ev st.σ)).toArray by simp]
      exact run_yield hr (by simpa using hlen)
    unfold Snd
    rw [hrun]
    refine ⟨fun h => (by cases h), h.mono fun e wr hpost => ?_⟩
    have := done e wr hpost
    cases e <;> exact this
  · exact h.elim

theorem s_inv {x : Operand} {name : String} {args : Array Operand} {ts : Array TypeId} (ho : o.op = .call ⟨.invoke x name, args, ts⟩) (hok : okOper C.n o = true) (hI : Inv C a wa st u θ)
    (h : bif args.toList.all (fun x => plain (ev st.σ x)) then (match ev st.σ x with
        | .iface t r => (match pv E.P (method (E.P.types.size + Made.depth) t r name) with
          | some (g, r') => bif callable E.P g then CallF E.P g (r' :: args.toList.map (ev st.σ)).toArray u fun v w' => exR E.P o.type fun v' => v = v' ∧ K (fin o st v') w' else False
          | none => False)
        | _ => False) else False) : Snd E C fz o st θ K Q a wa := by
  obtain ⟨hp, h⟩ := bif_elim h
  have kx : okOp C.n x = true := opd hok (by simp [ho, Op.operands, Call.operands])
  have ka : ∀ x ∈ args.toList, okOp C.n x = true := fun x hx => opd hok (by simp [ho, Op.operands, Call.operands]; right; simpa using hx)
  split at h
  · rename_i t r hf
    cases hm : pv E.P (method (E.P.types.size + Made.depth) t r name) with
    | none => simp only [hm] at h
    | some gr =>
      obtain ⟨g, r'⟩ := gr
      simp only [hm] at h
      obtain ⟨hc, F, hF, h⟩ := bif_elim h
      have hef := ev_val hI kx hf rfl
      have hea := arr_evs hI ka hp
      have hrun : (execOp a.eval o).run E.P wa = .ok (.enter g (r' :: args.toList.map (ev st.σ)).toArray) wa := by
        simp only [execOp, ho, resolve, hef, hea, Sem.run_bind, Sem.run_pure, Result.andThen_ok, invoke]
        simp [callMethod, pv_run hm wa, run_callFunc hc]
        exact List.take_of_length_le (by simp)
      unfold Snd
      rw [hrun]
      refine ⟨fun h => (by cases h), callsIn_wide.2 ((h wa hI.below).mono fun e wr hpost => ?_)⟩
      obtain ⟨v, w', rfl, hout, hK⟩ := hpost
      obtain ⟨v', hpv, rfl, hK⟩ := exR_elim hK
      exact post_finP hok (hI.ret hF hout) hpv hK
  · exact h.elim

theorem s_bi {b : Builtin} {args : Array Operand} {ts : Array TypeId} (ho : o.op = .call ⟨.builtin b, args, ts⟩) (hok : okOper C.n o = true) (hI : Inv C a wa st u θ)
    (h : W1b E o st u b args.toList ts.toList K) : Snd E C fz o st θ K Q a wa := by
  have ka : ∀ x ∈ args.toList, okOp C.n x = true := fun x hx => opd hok (by simp [ho, Op.operands, Call.operands]; simpa using hx)
  obtain ⟨args⟩ := args
  obtain ⟨ts⟩ := ts
  simp only at h ka
  unfold W1b at h
  split at h
  · rename_i x t
    have kx := ka x (by simp)
    split at h
    · rename_i n c hu he
      refine up_value (r := .int .i64 n) (wb := wa) ?_ (post_finP hok hI rfl h)
      refine run_builtin (s := Builtin.len_ #[t] o.type #[a.eval x]) ho (fun _ => by simp [builtin]) ?_
      simp [Builtin.len_, run_under hu, ev_val hI kx he rfl, goInt]
    · rename_i s hu he
      refine up_value (r := .int .i64 s.size) (wb := wa) ?_ (post_finP hok hI rfl h)
      refine run_builtin (s := Builtin.len_ #[t] o.type #[a.eval x]) ho (fun _ => by simp [builtin]) ?_
      simp [Builtin.len_, run_under hu, ev_val hI kx he rfl, goInt]
    · rename_i n e hu
      obtain ⟨_, h⟩ := bif_elim h
      refine up_value (r := .int .i64 n) (wb := wa) ?_ (post_finP hok hI rfl h)
      refine run_builtin (s := Builtin.len_ #[t] o.type #[a.eval x]) ho (fun _ => by simp [builtin]) ?_
      simp [Builtin.len_, run_under hu, goInt]
    · exact h.elim
  · rename_i x y t t'
    split at h
    · rename_i e e' base n cap xb m c hu hu' hx hy
      exact s_app ho hok hI hu hu' hx hy h
    · exact h.elim
  · split at h
    · rename_i k i is hi
      refine up_value (r := .int k (is.foldl (fun x y => if y < x then y else x) i)) (wb := wa) ?_ (post_finP hok hI rfl h)
      obtain ⟨he, _⟩ := ints_eq hI ka hi
      refine run_builtin (s := (is.map (Value.int k)).foldlM Builtin.min2 (.int k i)) ho (fun _ => ?_) (run_min is i)
      simp only [builtin, Builtin.min_, List.map_toArray, he, List.map_cons]
    · exact h.elim
  · split at h
    · rename_i k i is hi
      refine up_value (r := .int k (is.foldl (fun x y => if y > x then y else x) i)) (wb := wa) ?_ (post_finP hok hI rfl h)
      obtain ⟨he, _⟩ := ints_eq hI ka hi
      refine run_builtin (s := (is.map (Value.int k)).foldlM Builtin.max2 (.int k i)) ho (fun _ => ?_) (run_max is i)
      simp only [builtin, Builtin.max_, List.map_toArray, he, List.map_cons]
    · exact h.elim
  · exact h.elim

theorem W1_sound (hok : okOper C.n o = true) (hI : Inv C a wa st u θ) (h : W1 E fz o st u K) : Snd E C fz o st θ K Q a wa := by
  cases ho : o.op with
  | move x => simp only [W1, ho] at h; exact s_move (.inl ho) hok hI h
  | assign x => simp only [W1, ho] at h; exact s_move (.inr ho) hok hI h
  | pick c x y =>
    simp only [W1, ho] at h
    split at h
    · rename_i t hc; exact s_pick ho hok hI hc h
    · exact h.elim
  | alloc t =>
    simp only [W1, ho] at h
    cases hz : (E.P.info? t).bind (·.zero) with
    | none => simp only [hz] at h
    | some z =>
      simp only [hz] at h
      have hrun : (execOp a.eval o).run E.P wa = .ok (.value (.pointer (some ⟨wa.heap.size, 0, none⟩))) (wa.alloc (.cells z.cells t (0, 0))) := by
        simp only [execOp, ho, Sem.run_bind, run_alloc hz]; rfl
      cases hd : o.dst with
      | none => simp only [hd] at h
      | some k =>
        simp only [hd] at h
        cases hm : memN E.priv k with
        | true => simp only [hm, cond_true] at h; exact s_newBox (by simp [privOp, ho, hd, hm]) hok hI hd hrun h
        | false => simp only [hm, cond_false] at h; exact s_newPub hok hI hrun h
  | box t x =>
    simp only [W1, ho] at h
    obtain ⟨hp, h⟩ := bif_elim h
    have kx : okOp C.n x = true := opd hok (by simp [ho, Op.operands])
    have hrun : (execOp a.eval o).run E.P wa = .ok (.value (.pointer (some ⟨wa.heap.size, 0, none⟩))) (wa.alloc (.cells (ev st.σ x).cells t (0, 0))) := by
      simp only [execOp, ho, Sem.run_bind, run_box, ev_eq hI kx hp]; rfl
    cases hd : o.dst with
    | none => simp only [hd] at h
    | some k =>
      simp only [hd] at h
      cases hm : memN E.priv k with
      | true => simp only [hm, cond_true] at h; exact s_newBox (by simp [privOp, ho, hd, hm]) hok hI hd hrun h
      | false => simp only [hm, cond_false] at h; exact s_newPub hok hI hrun h
  | build t ps => simp only [W1, ho] at h; exact s_bld ho hok hI h
  | buildSlice t len ps => simp only [W1, ho] at h; exact s_bls ho hok hI h
  | load t x =>
    simp only [W1, ho] at h
    cases hk : kinds E.P t with
    | none => simp only [hk] at h
    | some ks => simp only [hk] at h; exact s_load ho hok hI hk h
  | store t x y => simp only [W1, ho] at h; exact s_store ho hok hI h
  | nilCheck x => simp only [W1, ho] at h; exact s_nil ho hok hI h
  | binOp op t x y t' => simp only [W1, ho] at h; exact s_bin ho hok hI h
  | unOp op t x => simp only [W1, ho] at h; exact s_un h ho hok hI
  | convert s d x => simp only [W1, ho] at h; exact s_conv ho hok hI h
  | makeInterface t x => simp only [W1, ho] at h; exact s_mki ho hok hI h
  | makeSlice t x y => simp only [W1, ho] at h; exact s_mks ho hok hI h
  | makeFunc fn p q => simp only [W1, ho] at h; exact s_mkf ho hok hI h
  | slice t x lo hi mx => simp only [W1, ho] at h; exact s_slice h ho hok hI
  | fieldAddr t x f =>
    simp only [W1, ho] at h
    cases hd : fOff E.P t f with
    | none => simp only [hd] at h
    | some d => simp only [hd] at h; exact s_fa ho hok hI hd h
  | field t x f => simp only [W1, ho] at h; exact s_fld ho hok hI h
  | indexAddr t x i => simp only [W1, ho] at h; exact s_ia ho hok hI h
  | index t x i => simp only [W1, ho] at h; exact s_idx ho hok hI h
  | extract x i => simp only [W1, ho] at h; exact s_ext ho hok hI h
  | call c =>
    simp only [W1, ho] at h
    obtain ⟨callee, args, ts⟩ := c
    cases callee with
    | builtin b => simp only at h; exact s_bi ho hok hI h
    | value f => simp only at h; exact s_call ho hok hI h
    | invoke r m => simp only at h; exact s_inv ho hok hI h
  | _ => simp only [W1, ho] at h

end
end Go.Eng
