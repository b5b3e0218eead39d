import Derived.Test.YtdiimonfmdbclaaEngF
import Derived.Laws.AppendOwn
/-
  The engine, seventh part: each operation is sound.
-/
namespace Go.Eng
open Go.RowKit

section
variable {E : Env} {C : Ctx} {a : Act} {wa : World} {st : St} {u : UW} {θ : Nat → Nat} {fz : List Nat} {o : Oper} {K : St → UW → Prop} {Q : Exit → Act → World → Prop}

/-- What is to be shown of an operation. -/
def Snd (E : Env) (C : Ctx) (fz : List Nat) (o : Oper) (st : St) (θ : Nat → Nat) (K : St → UW → Prop) (Q : Exit → Act → World → Prop) (a : Act) (wa : World) : Prop :=
  o.uponIn Fence.wide 0 E.P a (PostW C fz o st θ (privOp E.priv o) K) Q ((execOp a.eval o).run E.P wa)

theorem s_move {x : Operand} (ho : o.op = .move x ∨ o.op = .assign x) (hok : okOper C.n o = true) (hI : Inv C a wa st u θ) (h : K (fin o st (ev st.σ x)) u) : Snd E C fz o st θ K Q a wa := by
  have hx : okOp C.n x = true := opd hok (by rcases ho with ho | ho <;> simp [ho, Op.operands])
  refine up_value (r := a.eval x) (wb := wa) (by rcases ho with ho | ho <;> simp [execOp, ho]) ?_
  exact post_fin hok hI (ev_R hI hx) (fun k o' e => (ev_fk hI hx e).2) h

theorem s_pick {c x y : Operand} (ho : o.op = .pick c x y) (hok : okOper C.n o = true) (hI : Inv C a wa st u θ) {t : Bool} (hc : ev st.σ c = .bool t) (h : CIf t (K (fin o st (ev st.σ x)) u) (K (fin o st (ev st.σ y)) u)) :
    Snd E C fz o st θ K Q a wa := by
  have hxc : okOp C.n c = true := opd hok (by simp [ho, Op.operands])
  have hx : okOp C.n x = true := opd hok (by simp [ho, Op.operands])
  have hy : okOp C.n y = true := opd hok (by simp [ho, Op.operands])
  have hec := ev_val hI hxc hc rfl
  cases t with
  | true =>
    refine up_value (r := a.eval x) (wb := wa) (by simp [execOp, ho, hec, asBool]) ?_
    exact post_fin hok hI (ev_R hI hx) (fun k o' e => (ev_fk hI hx e).2) h
  | false =>
    refine up_value (r := a.eval y) (wb := wa) (by simp [execOp, ho, hec, asBool]) ?_
    exact post_fin hok hI (ev_R hI hy) (fun k o' e => (ev_fk hI hy e).2) h

theorem isBox_false {D : List (Nat × Nat)} {k : Nat} (h : isBox D k = false) : ∀ m, (k, m) ∉ D := by
  intro m hm
  have := isBox_iff.2 ⟨m, hm⟩
  rw [h] at this; cases this

theorem pres_box {k : Nat} {cs : List Value} (hk : k < C.n) (hn : C.n ≤ 65536) (hd : o.dst = some k) (hb : isBox st.D k = false) (hsz : ∀ k m, (k, m) ∈ st.D → m ≤ 65536) (hcs : cs.length ≤ 65536) (m' : Nat) :
    Pres C.n fz o.dst.toList st { st with σ := wrG (upd st.σ k (fake k 0)) k 0 cs, D := (k, m') :: st.D } where
  slot := fun i hi hni => by
    rw [hd] at hni
    simp only [Option.toList, List.mem_singleton] at hni
    simp only
    rw [wrG_slot _ _ _ (by omega), upd_ne _ _ hni]
  D := fun x hx => by simp [hx]
  fz := fun k' hk' m hm j hj => by
    have hne : k' ≠ k := fun e => isBox_false hb m (e ▸ hm)
    have := hsz k' m hm
    simp only
    rw [wrG_other, upd_ne]
    · have := gx_ge k' j; omega
    · intro i _ hi e
      exact hne (gx_inj (by omega) (by omega) e).1

theorem s_newBox {k : Nat} {cs : Array Value} {T : TypeId} (hpv : privOp E.priv o = true) (hok : okOper C.n o = true) (hI : Inv C a wa st u θ) (hd : o.dst = some k)
    (hrun : (execOp a.eval o).run E.P wa = .ok (.value (.pointer (some ⟨wa.heap.size, 0, none⟩))) (wa.alloc (.cells cs T (0, 0))))
    (h : (bif !isBox st.D k && !memN fz k && allPlain cs.toList && Nat.ble cs.size 65536 then K { st with σ := wrG (upd st.σ k (fake k 0)) k 0 cs.toList, D := (k, cs.size) :: st.D } u else False)) :
    Snd E C fz o st θ K Q a wa := by
  obtain ⟨hc, h⟩ := bif_elim h
  simp only [Bool.and_eq_true, Bool.not_eq_true', Nat.ble_eq] at hc
  obtain ⟨⟨⟨h1, h2⟩, h3⟩, h4⟩ := hc
  have hk := dst_lt hok k hd
  refine up_value hrun ?_
  rw [hd]
  exact ⟨_, _, _, hI.newBox hk (isBox_false h1) (fun v hv => (all_plain h3 v hv).1) h4, pres_box hk hI.n_le hd h1 (fun k m hm => (hI.boxes k m hm).1) (by simpa using h4) _, fun k' m hm => by (have hne : k' ≠ k := fun e => isBox_false h1 m (e ▸ hm)); exact if_neg hne, fun hn => (by rw [hpv] at hn; cases hn), h⟩

theorem s_newPub {cs : Array Value} {T : TypeId} (hok : okOper C.n o = true) (hI : Inv C a wa st u θ)
    (hrun : (execOp a.eval o).run E.P wa = .ok (.value (.pointer (some ⟨wa.heap.size, 0, none⟩))) (wa.alloc (.cells cs T (0, 0))))
    (h : ∀ (b : Nat) (w' : World), Born u.toWorld w' b (.cells cs T (0, 0)) → K (fin o st (.pointer (some ⟨b, 0, none⟩))) (u.born b w')) : Snd E C fz o st θ K Q a wa := by
  obtain ⟨w', hb, hI'⟩ := hI.born (.cells cs T (0, 0))
  exact up_value hrun (post_finP hok hI' rfl (h _ _ hb))

theorem run_alloc {t : TypeId} {z : Value} {P : Program} {w : World} (hz : (P.info? t).bind (·.zero) = some z) : (Instr.alloc t true (.tuple #[])).run P w = .ok (.pointer (some ⟨w.heap.size, 0, none⟩)) (w.alloc (.cells z.cells t (0, 0))) := by
  simp only [Instr.alloc, Sem.run_bind, run_zero hz, Result.andThen_ok, newVar, newRow, run_newObj, Sem.run_pure]
  rfl

theorem run_box {t : TypeId} {v : Value} {P : Program} {w : World} : (Instr.box t v).run P w = .ok (.pointer (some ⟨w.heap.size, 0, none⟩)) (w.alloc (.cells v.cells t (0, 0))) := by
  simp only [Instr.box, Sem.run_bind, Result.andThen_ok, newVar, newRow, run_newObj, Sem.run_pure]
  rfl

theorem s_load {t : TypeId} {x : Operand} {ks : List K1} (ho : o.op = .load t x) (hok : okOper C.n o = true) (hI : Inv C a wa st u θ) (hk : kinds E.P t = some ks)
    (h : match ev st.σ x with
      | .complex .f64 k off => match boxSize st.D k with
        | some m => bif Nat.ble (off + ks.length) m && allPlain (rdG st.σ k off ks.length) then K (fin o st (mkV (aggT E.P t) (rdG st.σ k off ks.length))) u else False
        | none => False
      | v => withPtr v fun b off => exL ks fun vs => rd u.heap b off ks.length = some vs ∧ K (fin o st (mkV (aggT E.P t) vs)) u) : Snd E C fz o st θ K Q a wa := by
  have hx : okOp C.n x = true := opd hok (by simp [ho, Op.operands])
  obtain ⟨hl1, ⟨d, hu⟩, hl2⟩ := kinds_spec hk
  split at h
  · rename_i k off he
    cases hb : boxSize st.D k with
    | none => simp only [hb] at h
    | some m =>
      simp only [hb] at h
      obtain ⟨hc, h⟩ := bif_elim h
      simp only [Bool.and_eq_true, Nat.ble_eq] at hc
      obtain ⟨h1, h2⟩ := hc
      obtain ⟨_, c, T, b1, b2, b3, _⟩ := hI.boxes k m (boxSize_mem hb)
      have hp := all_plain h2
      have hev := (ev_fk hI hx he).1
      have hlist := cells_drop_take b2 b3 ks.length off h1 hp
      refine up_value (r := mkV (aggT E.P t) (rdG st.σ k off ks.length)) (wb := wa) ?_ (post_finP hok hI (mkV_plain hp (hl2.imp id fun h => by rw [rdG_length]; exact h)) h)
      simp only [execOp, ho, hev, Instr.loadAt, Instr.sureAddr, Sem.run_bind, Sem.run_pure, Result.andThen_ok]
      rw [run_loadVar hk b1 (by omega), hlist]
      rfl
  · obtain ⟨b, off, hv, h⟩ := withPtr_elim h
    obtain ⟨vs, hlen, hp, hrd, h⟩ := exL_elim h
    have hev := ev_val hI hx hv rfl
    by_cases hz : ks.length = 0
    · have hag : aggT E.P t = true := hl2.resolve_right (by omega)
      have hvs : vs = [] := List.eq_nil_of_length_eq_zero (by omega)
      subst hvs
      obtain ⟨i, hi⟩ := info_of_under hu
      refine up_value (r := mkV (aggT E.P t) []) (wb := wa) ?_ (post_finP hok hI (by rw [hag]; rfl) h)
      simp only [execOp, ho, hev, Instr.loadAt, Instr.sureAddr, Sem.run_bind, Sem.run_pure, Result.andThen_ok, loadVar, run_isAgg hu, hag, if_true, run_size hi, ← hl1, hz]
      rfl
    · obtain ⟨c, T, f, c1, c2, c3⟩ := rd_sees hI.below hrd hz
      refine up_value (r := mkV (aggT E.P t) vs) (wb := wa) ?_ (post_finP hok hI (mkV_plain hp (hl2.imp id fun h => by omega)) h)
      simp only [execOp, ho, hev, Instr.loadAt, Instr.sureAddr, Sem.run_bind, Sem.run_pure, Result.andThen_ok]
      rw [run_loadVar hk c1 c2, ← c3]
      rfl

/-- A block of its own is written. -/
theorem pub_store {b off : Nat} {vs : List Value} {K' : UW → Prop} (hI : Inv C a wa st u θ) (h : cStore b off vs u K') (hne : vs ≠ []) :
    ∃ c T w', wa.heap[b]? = some (.cells c T (0, 0)) ∧ off + vs.length ≤ c.size ∧ Inv C a (setB wa b (.cells (wrA c off vs) T (0, 0))) st (u.sto w') θ ∧ K' (u.sto w') := by
  obtain ⟨c, T, h1, h2, h3, h4⟩ := h
  have hlt : b < u.heap.size := (Array.getElem?_eq_some_iff.1 h1).1
  have hwa : wa.heap[b]? = some (.cells c T (0, 0)) := by
    rcases hI.below.block b hlt with e | e
    · rw [← e]; exact h1
    · rw [h1] at e
      simp only [Option.some.injEq, Obj.cells.injEq] at e
      obtain ⟨rfl, _, _⟩ := e
      have : vs.length ≠ 0 := fun e => hne (List.eq_nil_of_length_eq_zero e)
      rw [Array.size_empty] at h2; omega
  have hlt' : b < wa.heap.size := (Array.getElem?_eq_some_iff.1 hwa).1
  refine ⟨c, T, setB u.toWorld b (.cells (wrA c off vs) T (0, 0)), hwa, h2, ?_, h4 _ ⟨rfl, rfl, rfl, by rw [setB_size]; exact Nat.le_refl _, setB_at hlt, fun c hc _ => setB_ne hc⟩⟩
  refine hI.world (F := fun x => x = b) (fun _ e => e ▸ h3) ⟨rfl, rfl, rfl, by rw [setB_size]; exact Nat.le_refl _, fun c _ hc => setB_ne hc⟩ ?_ ⟨rfl, rfl, rfl, by show _ ≤ (setB u.toWorld b _).heap.size; rw [setB_size]; exact Nat.le_refl _, fun c _ hc => setB_ne hc⟩ ?_ ?_ ?_
  · refine ⟨hI.below.os, hI.below.tape, hI.below.output, ?_, fun i hc => ?_⟩
    · show (setB u.toWorld b _).heap.size ≤ (setB wa b _).heap.size
      rw [setB_size, setB_size]; exact hI.below.size
    · have hc' : i < u.heap.size := by
        have hh : i < (setB u.toWorld b (.cells (wrA c off vs) T (0, 0))).heap.size := hc
        rw [setB_size] at hh; exact hh
      show (setB u.toWorld b _).heap[i]? = (setB wa b _).heap[i]? ∨ (setB u.toWorld b _).heap[i]? = _
      by_cases e : i = b
      · subst e; rw [setB_at hlt, setB_at hlt']; exact .inl rfl
      · rw [setB_ne e, setB_ne e]; exact hI.below.block i hc'
  · intro i h1 h2 h3
    have hh : i < (setB u.toWorld b (.cells (wrA c off vs) T (0, 0))).heap.size := h3
    rw [setB_size] at hh
    omega
  · intro i hc
    rw [setB_size]; exact hI.pubs i hc
  · intro i hc _
    exact hc

theorem cells_ne {t : TypeId} {v : Value} {P : Program} (h : v.cells.size = P.cellsOf t) (hz : P.cellsOf t ≠ 0) : v.cells.toList ≠ [] := by
  intro e
  have : v.cells.toList.length = 0 := by rw [e]; rfl
  simp only [Array.length_toList] at this; omega

theorem s_store {t : TypeId} {x y : Operand} (ho : o.op = .store t x y) (hok : okOper C.n o = true) (hI : Inv C a wa st u θ)
    (h : (bif plain (ev st.σ y) && Nat.beq (ev st.σ y).cells.size (E.P.cellsOf t) && allPlain (ev st.σ y).cells.toList && (E.P.info? t).isSome then match ev st.σ x with
      | .complex .f64 k off => match boxSize st.D k with
        | some m => bif Nat.ble (off + (ev st.σ y).cells.size) m && !memN fz k then K { st with σ := put (wrG st.σ k off (ev st.σ y).cells.toList) o.dst undef } u else False
        | none => False
      | v => withPtr v fun b off => cStore b off (ev st.σ y).cells.toList u fun w' => K (fin o st undef) w'
      else False)) : Snd E C fz o st θ K Q a wa := by
  have hx : okOp C.n x = true := opd hok (by simp [ho, Op.operands])
  have hy : okOp C.n y = true := opd hok (by simp [ho, Op.operands])
  obtain ⟨hc, h⟩ := bif_elim h
  simp only [Bool.and_eq_true, beq_iff] at hc
  obtain ⟨⟨⟨hpy, hsz⟩, hall⟩, hinfo⟩ := hc
  obtain ⟨i, hi⟩ := Option.isSome_iff_exists.1 hinfo
  have hp := all_plain hall
  have hey := ev_eq hI hy hpy
  generalize hvy : ev st.σ y = vy at *
  split at h
  · rename_i k off he
    cases hb : boxSize st.D k with
    | none => simp only [hb] at h
    | some m =>
      simp only [hb] at h
      obtain ⟨hc, h⟩ := bif_elim h
      simp only [Bool.and_eq_true, Nat.ble_eq, Bool.not_eq_true'] at hc
      obtain ⟨h1, h2⟩ := hc
      have hkm := boxSize_mem hb
      obtain ⟨c, T, b1, b2, hI'⟩ := hI.stBox (o := off) (vs := vy.cells.toList) hkm (by simpa using h1) (fun v hv => (hp v hv).1)
      have hev := (ev_fk hI hx he).1
      refine up_skip (wb := setB wa (θ k) (.cells (wrA c off vy.cells.toList) T (0, 0))) ?_ ⟨_, _, _, hI'.finP o.dst (dst_lt hok) (v := undef) rfl, ?_, fun _ _ _ => rfl, fun _ => rfl, h⟩
      · simp only [execOp, ho, hev, hey, Instr.storeAt, Instr.sureAddr, Sem.run_bind, Sem.run_pure, Result.andThen_ok]
        rw [run_storeVar hi hsz b1 (by omega) (fun v hv => (hp v hv).2)]
        rfl
      · have hP1 : Pres C.n fz [] st { st with σ := wrG st.σ k off vy.cells.toList } := by
          refine ⟨fun i hi _ => ?_, fun _ h => h, fun k' hk' m' hm' j hj => ?_⟩
          · simp only; rw [wrG_slot _ _ _ (Nat.lt_of_lt_of_le hi hI.n_le)]
          · have hne : k' ≠ k := fun e => by
              have := memN_iff.2 (e ▸ hk'); rw [h2] at this; cases this
            simp only
            rw [wrG_other]
            intro i _ hi e
            have := (hI.boxes k' m' hm').1
            have := (hI.boxes k m hkm).1
            simp only [Array.length_toList] at hi
            exact hne (gx_inj (by omega) (by omega) e).1
        have hP2 := Pres.fin (n := C.n) (fz := fz) { st with σ := wrG st.σ k off vy.cells.toList } o.dst (dst_lt hok) hI.n_le undef
        have := hP1.trans hP2
        simpa using this
  · obtain ⟨b, off, hv, h⟩ := withPtr_elim h
    have hev := ev_val hI hx hv rfl
    by_cases hz : vy.cells.toList = []
    · obtain ⟨c, T, h1, h2, h3, h4⟩ := h
      rw [hz] at h4
      simp only [wrA] at h4
      have hs0 : vy.cells.size = 0 := by have := congrArg List.length hz; simpa using this
      have hS : Sto u.toWorld u.toWorld b (.cells c T (0, 0)) := ⟨rfl, rfl, rfl, Nat.le_refl _, h1, fun _ _ _ => rfl⟩
      refine up_skip (wb := wa) ?_ (post_finP hok (u' := u.sto u.toWorld) (θ := θ) ?_ rfl (h4 _ hS))
      · simp only [execOp, ho, hev, hey, Instr.storeAt, Instr.sureAddr, Sem.run_bind, Sem.run_pure, Result.andThen_ok, storeVar, run_size hi]
        rw [if_neg (by omega), hz]
        simp [storeCells]
      · exact hI
    · obtain ⟨c, T, w', c1, c2, hI', hK⟩ := pub_store hI h hz
      simp only [Array.length_toList] at c2
      refine up_skip (wb := setB wa b (.cells (wrA c off vy.cells.toList) T (0, 0))) ?_ (post_finP hok hI' rfl hK)
      simp only [execOp, ho, hev, hey, Instr.storeAt, Instr.sureAddr, Sem.run_bind, Sem.run_pure, Result.andThen_ok]
      rw [run_storeVar hi hsz c1 c2 (fun v hv => (hp v hv).2)]
      rfl

theorem s_bin {op : BinOp} {t t' : TypeId} {x y : Operand} (ho : o.op = .binOp op t x y t') (hok : okOper C.n o = true) (hI : Inv C a wa st u θ) (h : cBin E.P op t (ev st.σ x) (ev st.σ y) fun v => K (fin o st v) u) :
    Snd E C fz o st θ K Q a wa := by
  have hx : okOp C.n x = true := opd hok (by simp [ho, Op.operands])
  have hy : okOp C.n y = true := opd hok (by simp [ho, Op.operands])
  obtain ⟨px, py, v, hp, hK, hr⟩ := cBin_sound h x y
  refine up_value (r := v) (wb := wa) ?_ (post_finP hok hI hp hK)
  simp only [execOp, ho]
  rw [ev_eq hI hx px, ev_eq hI hy py]
  rw [Sem.run_bind, hr]
  rfl

end
end Go.Eng
