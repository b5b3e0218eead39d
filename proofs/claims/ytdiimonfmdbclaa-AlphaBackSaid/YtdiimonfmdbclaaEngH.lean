import Derived.Test.YtdiimonfmdbclaaEngG
/-
  The engine, eighth part: the other operations.
-/
namespace Go.Eng
open Go.RowKit

section
variable {E : Env} {C : Ctx} {a : Act} {wa : World} {st : St} {u : UW} {θ : Nat → Nat} {fz : List Nat} {o : Oper} {K : St → UW → Prop} {Q : Exit → Act → World → Prop}

theorem s_un {op : UnOp} {t : TypeId} {x : Operand}
    (h : match op, ev st.σ x with
      | .not, .bool b => K (fin o st (.bool (!b))) u
      | .neg, .int k n => K (fin o st (.int k (k.wrap (0 - n)))) u
      | _, _ => False) (ho : o.op = .unOp op t x) (hok : okOper C.n o = true) (hI : Inv C a wa st u θ) : Snd E C fz o st θ K Q a wa := by
  have hx : okOp C.n x = true := opd hok (by simp [ho, Op.operands])
  split at h
  · rename_i b he
    refine up_value (r := .bool (!b)) (wb := wa) ?_ (post_finP hok hI rfl h)
    simp [execOp, ho, ev_val hI hx he rfl, Op.unary]
  · rename_i k n he
    refine up_value (r := .int k (k.wrap (0 - n))) (wb := wa) ?_ (post_finP hok hI rfl h)
    simp [execOp, ho, ev_val hI hx he rfl, Op.unary, Op.intArith]
  · exact h.elim

theorem s_conv {s d : TypeId} {x : Operand} (ho : o.op = .convert s d x) (hok : okOper C.n o = true) (hI : Inv C a wa st u θ)
    (h : bif plain (ev st.σ x) then (match pv E.P (convert s d (ev st.σ x)) with
      | some v => bif plain v then K (fin o st v) u else False
      | none => False) else False) : Snd E C fz o st θ K Q a wa := by
  have hx : okOp C.n x = true := opd hok (by simp [ho, Op.operands])
  obtain ⟨hp, h⟩ := bif_elim h
  cases hv : pv E.P (convert s d (ev st.σ x)) with
  | none => simp only [hv] at h
  | some v =>
    simp only [hv] at h
    obtain ⟨hpv, h⟩ := bif_elim h
    refine up_value (r := v) (wb := wa) ?_ (post_finP hok hI hpv h)
    simp only [execOp, ho, ev_eq hI hx hp, Sem.run_bind, pv_run hv wa]
    rfl

theorem evs_eq (hI : Inv C a wa st u θ) : ∀ {xs : List Operand}, (∀ x ∈ xs, okOp C.n x = true) → (xs.all fun x => plain (ev st.σ x)) = true → xs.map a.eval = xs.map (ev st.σ)
  | [], _, _ => rfl
  | x :: xs, h, hp => by
    simp only [List.all_cons, Bool.and_eq_true] at hp
    simp only [List.map_cons]
    rw [ev_eq hI (h x (by simp)) hp.1, evs_eq hI (fun y hy => h y (by simp [hy])) hp.2]

theorem arr_evs (hI : Inv C a wa st u θ) {xs : Array Operand} (h : ∀ x ∈ xs.toList, okOp C.n x = true) (hp : (xs.toList.all fun x => plain (ev st.σ x)) = true) : xs.map a.eval = (xs.toList.map (ev st.σ)).toArray := by
  rw [← evs_eq hI h hp]
  apply Array.toList_inj.1
  simp

theorem s_mkf {fn : Fn} {first captured : Array Operand} (ho : o.op = .makeFunc fn first captured) (hok : okOper C.n o = true) (hI : Inv C a wa st u θ)
    (h : bif first.toList.all (fun x => plain (ev st.σ x)) && captured.toList.all (fun x => plain (ev st.σ x)) then
      K (fin o st (.func fn (first.toList.map (ev st.σ)).toArray (captured.toList.map (ev st.σ)).toArray)) u else False) : Snd E C fz o st θ K Q a wa := by
  obtain ⟨hc, h⟩ := bif_elim h
  simp only [Bool.and_eq_true] at hc
  have h1 : ∀ x ∈ first.toList, okOp C.n x = true := fun x hx => opd hok (by simp [ho, Op.operands]; left; simpa using hx)
  have h2 : ∀ x ∈ captured.toList, okOp C.n x = true := fun x hx => opd hok (by simp [ho, Op.operands]; right; simpa using hx)
  refine up_value (wb := wa) ?_ (post_finP hok hI rfl h)
  simp only [execOp, ho, arr_evs hI h1 hc.1, arr_evs hI h2 hc.2, Instr.makeFunc]
  rfl

theorem s_ext {x : Operand} {i : Nat} (ho : o.op = .extract x i) (hok : okOper C.n o = true) (hI : Inv C a wa st u θ)
    (h : match ev st.σ x with
      | .tuple vs => (match vs[i]? with
        | some v => bif plain v then K (fin o st v) u else False
        | none => False)
      | _ => False) : Snd E C fz o st θ K Q a wa := by
  have hx : okOp C.n x = true := opd hok (by simp [ho, Op.operands])
  split at h
  · rename_i vs he
    cases hv : vs[i]? with
    | none => simp only [hv] at h
    | some v =>
      simp only [hv] at h
      obtain ⟨hpv, h⟩ := bif_elim h
      refine up_value (r := v) (wb := wa) ?_ (post_finP hok hI hpv h)
      simp [execOp, ho, ev_val hI hx he rfl, Instr.extract, hv]
  · exact h.elim

theorem s_nil {x : Operand} (ho : o.op = .nilCheck x) (hok : okOper C.n o = true) (hI : Inv C a wa st u θ)
    (h : match ev st.σ x with
      | .complex .f64 k off => K (fin o st (fake k off)) u
      | .pointer p => nn p (K (fin o st (.pointer p)) u)
      | .func f p q => fnOk f (K (fin o st (.func f p q)) u)
      | _ => False) : Snd E C fz o st θ K Q a wa := by
  have hx : okOp C.n x = true := opd hok (by simp [ho, Op.operands])
  split at h
  · rename_i k off he
    obtain ⟨hev, hm⟩ := ev_fk hI hx he
    refine up_value (r := .pointer (some ⟨θ k, off, none⟩)) (wb := wa) (by simp [execOp, ho, hev]) ?_
    exact post_fin hok hI (v := fake k off) rfl (fun k' o' e => by simp only [Value.complex.injEq, true_and] at e; rw [← e.1]; exact hm) h
  · rename_i p he
    have hev := ev_val hI hx he rfl
    cases p with
    | none => exact h.elim
    | some p => exact up_value (r := .pointer (some p)) (wb := wa) (by simp [execOp, ho, hev]) (post_finP hok hI rfl h)
  · rename_i f p q he
    have hev := ev_val hI hx he rfl
    cases f with
    | method n => exact h.elim
    | _ => exact up_value (wb := wa) (by simp [execOp, ho, hev]) (post_finP hok hI rfl h)
  · exact h.elim

theorem fOff_spec {P : Program} {t : TypeId} {f d : Nat} (h : fOff P t f = some d) : ∃ fs x, P.underlying t = some (.struct fs) ∧ fs[f]? = some x ∧ x.offset = d ∧ P.cellsOf x.type ≠ 0 := by
  unfold fOff at h
  cases hu : P.underlying t with
  | none => simp [hu] at h
  | some D =>
    cases D <;> simp only [hu] at h <;> try (cases h; done)
    rename_i fs
    cases hf : fs[f]? with
    | none => simp [hf] at h
    | some x =>
      simp only [hf, Bool.cond_eq_ite, beq_iff] at h
      split at h
      · cases h
      · rename_i hz
        simp only [Option.some.injEq] at h
        exact ⟨fs, x, rfl, hf, h, hz⟩

theorem run_fieldAt {P : Program} {w : World} {t : TypeId} {f d b off : Nat} (h : fOff P t f = some d) : (Instr.fieldAt t (.pointer (some ⟨b, off, none⟩)) f).run P w = .ok (.pointer (some ⟨b, off + d, none⟩)) w := by
  obtain ⟨fs, x, hu, hf, rfl, hz⟩ := fOff_spec h
  have hi : ∃ i, P.info? x.type = some i := by
    cases hi : P.info? x.type with
    | none => simp [Program.cellsOf, hi] at hz
    | some i => exact ⟨i, rfl⟩
  obtain ⟨i, hi⟩ := hi
  simp only [Instr.fieldAt, Sem.run_bind, run_under hu, Result.andThen_ok, hf, Instr.sureAddr, Sem.run_pure, fieldPlace, run_size hi, if_neg hz, add_addr]

theorem s_fa {t : TypeId} {x : Operand} {f d : Nat} (ho : o.op = .fieldAddr t x f) (hok : okOper C.n o = true) (hI : Inv C a wa st u θ) (hd : fOff E.P t f = some d)
    (h : match ev st.σ x with
      | .complex .f64 k off => K (fin o st (fake k (off + d))) u
      | v => withPtr v fun b off => K (fin o st (.pointer (some ⟨b, off + d, none⟩))) u) : Snd E C fz o st θ K Q a wa := by
  have hx : okOp C.n x = true := opd hok (by simp [ho, Op.operands])
  split at h
  · rename_i k off he
    obtain ⟨hev, hm⟩ := ev_fk hI hx he
    refine up_value (r := .pointer (some ⟨θ k, off + d, none⟩)) (wb := wa) ?_ ?_
    · simp only [execOp, ho, hev, Sem.run_bind, run_fieldAt hd]; rfl
    · exact post_fin hok hI (v := fake k (off + d)) rfl (fun k' o' e => by simp only [Value.complex.injEq, true_and] at e; rw [← e.1]; exact hm) h
  · obtain ⟨b, off, hv, h⟩ := withPtr_elim h
    have hev := ev_val hI hx hv rfl
    refine up_value (r := .pointer (some ⟨b, off + d, none⟩)) (wb := wa) ?_ (post_finP hok hI rfl h)
    simp only [execOp, ho, hev, Sem.run_bind, run_fieldAt hd]; rfl

theorem s_fld {t : TypeId} {x : Operand} {f : Nat} (ho : o.op = .field t x f) (hok : okOper C.n o = true) (hI : Inv C a wa st u θ)
    (h : match ev st.σ x with
      | .agg cs => (match fldV E.P t f cs.toList with
        | some v => bif plain v then K (fin o st v) u else False
        | none => False)
      | _ => False) : Snd E C fz o st θ K Q a wa := by
  have hx : okOp C.n x = true := opd hok (by simp [ho, Op.operands])
  split at h
  · rename_i cs he
    cases hv : fldV E.P t f cs.toList with
    | none => simp only [hv] at h
    | some v =>
      simp only [hv] at h
      obtain ⟨hpv, h⟩ := bif_elim h
      refine up_value (r := v) (wb := wa) ?_ (post_finP hok hI hpv h)
      unfold fldV at hv
      cases hu : E.P.underlying t with
      | none => simp [hu] at hv
      | some D =>
        cases D <;> simp only [hu] at hv <;> try (cases hv; done)
        rename_i fs
        cases hf : fs[f]? with
        | none => simp [hf] at hv
        | some y =>
          simp only [hf, Bool.cond_eq_ite, Bool.and_eq_true, Nat.ble_eq] at hv
          split at hv
          · rename_i hc
            obtain ⟨hi, hle⟩ := hc
            obtain ⟨d, hud⟩ := Option.isSome_iff_exists.1 hi
            simp only [execOp, ho, ev_val hI hx he rfl, Instr.field, Sem.run_bind, run_under hu, Result.andThen_ok, hf, asAgg, Sem.run_pure]
            split at hv
            · rename_i hag
              simp only [Option.some.injEq] at hv
              rw [run_part_agg hud hag, ← hv]
              simp only [Result.andThen_ok]
              congr 3
              apply Array.toList_inj.1
              rw [Array.toList_extract, List.extract_eq_take_drop]
              simp
            · rename_i hag
              simp only [Bool.not_eq_true] at hag
              rw [run_part_one hud hag (v := v) (by simpa using hv)]
              rfl
          · cases hv
  · exact h.elim

/-- The bounds of a slice expression. -/
theorem run_bound {P : Program} {w : World} {k : IntKind} {i : Int} {y : Nat} {code : BoundsCode} (h1 : 0 ≤ i) (h2 : i ≤ y) : (Instr.sliceBound (.int k i) y code).run P w = .ok i.toNat w := by
  simp only [Instr.sliceBound, asIntOf, Sem.run_bind, Sem.run_pure, Result.andThen_ok]
  rw [if_pos ⟨h1, h2⟩]; rfl

theorem optInt_none {ρ : Operand → Value} {d i : Int} (h : optInt ρ none d = some i) : i = d := by simp only [optInt, Option.some.injEq] at h; exact h.symm
theorem optInt_some {ρ : Operand → Value} {x : Operand} {d i : Int} (h : optInt ρ (some x) d = some i) : ∃ k, ρ x = .int k i := by
  simp only [optInt] at h
  split at h
  · rename_i k j he; simp only [Option.some.injEq] at h; subst h; exact ⟨k, he⟩
  · cases h

theorem run_bounds {P : Program} {w : World} {isS : Bool} {len cap : Nat} {lo hi mx : Option Operand} {ρ ρr : Operand → Value} {l h m : Int} (hev : ∀ x k i, (lo = some x ∨ hi = some x ∨ mx = some x) → ρ x = .int k i → ρr x = .int k i)
    (hl : optInt ρ lo 0 = some l) (hh : optInt ρ hi len = some h) (hm : optInt ρ mx cap = some m) (hbad : (mx.isSome && hi.isNone) = false)
    (h0 : 0 ≤ l) (h1 : l ≤ h) (h2 : h ≤ m) (h3 : m ≤ cap) : (Instr.sliceBounds isS len cap (lo.map ρr) (hi.map ρr) (mx.map ρr)).run P w = .ok (l.toNat, h.toNat, m.toNat) w := by
  have fin : ∀ (H M : Nat) (code : BoundsCode), l ≤ (H : Int) → ∀ (X : Option Value), X = lo.map ρr →
      (match X with | some v => (do let l ← Instr.sliceBound v H code; pure (l, H, M) : Sem (Nat × Nat × Nat)) | none => (do let l ← pure 0; pure (l, H, M) : Sem (Nat × Nat × Nat))).run P w = .ok (l.toNat, H, M) w := by
    rintro H M code hH X rfl
    cases lo with
    | none => rw [optInt_none hl]; simp
    | some x =>
      obtain ⟨k, hk⟩ := optInt_some hl
      simp only [Option.map_some, hev x k l (by simp) hk, Sem.run_bind, run_bound h0 hH, Result.andThen_ok, Sem.run_pure]
  cases mx with
  | none =>
    obtain rfl := optInt_none hm
    cases hi with
    | none =>
      obtain rfl := optInt_none hh
      simp only [Instr.sliceBounds, Option.map_none, Sem.run_bind, Sem.run_pure, Result.andThen_ok, Int.toNat_natCast]
      exact fin len cap _ h1 _ rfl
    | some y =>
      obtain ⟨k, hk⟩ := optInt_some hh
      simp only [Instr.sliceBounds, Option.map_none, Option.map_some, Sem.run_bind, Sem.run_pure, Result.andThen_ok, Int.toNat_natCast, hev y k h (by simp) hk, run_bound (by omega) h2]
      exact fin h.toNat cap _ (by omega) _ rfl
  | some z =>
    obtain ⟨kz, hkz⟩ := optInt_some hm
    cases hi with
    | none => simp at hbad
    | some y =>
      obtain ⟨k, hk⟩ := optInt_some hh
      simp only [Instr.sliceBounds, Option.map_some, Sem.run_bind, Result.andThen_ok, hev z kz m (by simp) hkz, run_bound (show 0 ≤ m by omega) h3, hev y k h (by simp) hk,
        run_bound (show 0 ≤ h by omega) (show h ≤ ((m.toNat : Nat) : Int) by omega)]
      exact fin h.toNat m.toNat _ (by omega) _ rfl

theorem s_slice {t : TypeId} {x : Operand} {lo hi mx : Option Operand}
    (h : match E.P.underlying t, ev st.σ x with
      | some (.slice e), .slice b len cap => (match optInt (ev st.σ) lo 0, optInt (ev st.σ) hi len, optInt (ev st.σ) mx cap with
        | some l, some h, some m => (bif (mx.isSome && hi.isNone) || (E.P.info? e).isNone then False else (m.toNat = l.toNat ∨ noSpot b) ∧ 0 ≤ l ∧ l ≤ h ∧ h ≤ m ∧ m ≤ cap ∧ K (fin o st (.slice (slA b l.toNat m.toNat (E.P.cellsOf e)) (h.toNat - l.toNat) (m.toNat - l.toNat))) u)
        | _, _, _ => False)
      | some .string, .string s => (match mx with
        | some _ => False
        | none => match optInt (ev st.σ) lo 0, optInt (ev st.σ) hi s.size with
          | some l, some h => 0 ≤ l ∧ l ≤ h ∧ h ≤ s.size ∧ K (fin o st (.string (s.extract l.toNat h.toNat))) u
          | _, _ => False)
      | _, _ => False) (ho : o.op = .slice t x lo hi mx) (hok : okOper C.n o = true) (hI : Inv C a wa st u θ) : Snd E C fz o st θ K Q a wa := by
  have hx : okOp C.n x = true := opd hok (by simp [ho, Op.operands])
  have hev : ∀ y k i, (lo = some y ∨ hi = some y ∨ mx = some y) → ev st.σ y = .int k i → a.eval y = .int k i := by
    intro y k i hy he
    refine ev_val hI (opd hok ?_) he rfl
    rcases hy with rfl | rfl | rfl <;> simp [ho, Op.operands]
  split at h
  · rename_i e b len cap hu he
    split at h
    · rename_i l h' m hl hh hm
      cases hbad' : (mx.isSome && hi.isNone) || (E.P.info? e).isNone with
      | true => simp only [hbad', cond_true] at h
      | false =>
        simp only [hbad', cond_false] at h
        simp only [Bool.or_eq_false_iff] at hbad'
        obtain ⟨hbad, hie⟩ := hbad'
        obtain ⟨i, hi'⟩ : ∃ i, E.P.info? e = some i := by cases hq : E.P.info? e <;> simp_all
        obtain ⟨hns, h0, h1, h2, h3, hK⟩ := h
        refine up_value (r := .slice (slA b l.toNat m.toNat (E.P.cellsOf e)) (h'.toNat - l.toNat) (m.toNat - l.toNat)) (wb := wa) ?_ (post_finP hok hI rfl hK)
        simp only [execOp, ho, ev_val hI hx he rfl, Sem.run_bind, Instr.sliceAt, run_under hu, Result.andThen_ok, Instr.slice, run_bounds hev hl hh hm hbad h0 h1 h2 h3, run_size hi', Sem.run_pure]
        congr 3
        unfold slA
        split
        · rfl
        · rename_i hml
          cases b with
          | none => rfl
          | some b =>
            simp only [Option.map_some, Option.some.injEq]
            unfold Addr.add
            split
            · rename_i h0'
              obtain ⟨bb, bo, bs⟩ := b
              have := (hns.resolve_left hml) _ rfl
              simp only at this
              subst this
              simp [h0']
            · rfl
    · exact h.elim
  · rename_i s hu he
    cases mx with
    | some _ => exact h.elim
    | none =>
      simp only at h
      split at h
      · rename_i l h' hl hh
        obtain ⟨h0, h1, h2, hK⟩ := h
        refine up_value (r := .string (s.extract l.toNat h'.toNat)) (wb := wa) ?_ (post_finP hok hI rfl hK)
        have hb := run_bounds (P := E.P) (w := wa) (isS := false) (len := s.size) (cap := s.size) (mx := none) (m := s.size) (fun y k i hy => hev y k i (by rcases hy with h | h | h; exact .inl h; exact .inr (.inl h); cases h)) hl hh rfl (by simp) h0 h1 h2 (by omega)
        simp only [execOp, ho, ev_val hI hx he rfl, Sem.run_bind, Instr.sliceAt, run_under hu, Result.andThen_ok, Instr.slice]
        simp only [Option.map_none] at hb
        simp only [Option.map_none, Option.isSome_none, Bool.false_eq_true, if_false, Sem.run_bind, hb, Result.andThen_ok, Sem.run_pure]
      · exact h.elim
  · exact h.elim

end
end Go.Eng
