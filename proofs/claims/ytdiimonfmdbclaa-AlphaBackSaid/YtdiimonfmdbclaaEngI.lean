import Derived.Test.YtdiimonfmdbclaaEngH
/-
  The engine, ninth part: indexes, building, builtins, calls.
-/
namespace Go.Eng
open Go.RowKit

section
variable {E : Env} {C : Ctx} {a : Act} {wa : World} {st : St} {u : UW} {θ : Nat → Nat} {fz : List Nat} {o : Oper} {K : St → UW → Prop} {Q : Exit → Act → World → Prop}

theorem cellsOf_info {P : Program} {t : TypeId} (h : P.cellsOf t ≠ 0) : ∃ i, P.info? t = some i := by
  cases hi : P.info? t with
  | none => simp [Program.cellsOf, hi] at h
  | some i => exact ⟨i, rfl⟩

theorem s_ia {t : TypeId} {x i : Operand} (ho : o.op = .indexAddr t x i) (hok : okOper C.n o = true) (hI : Inv C a wa st u θ)
    (h : match E.P.underlying t, ev st.σ x, ev st.σ i with
      | some (.slice e), .slice b len _, .int _ j => (bif (E.P.info? e).isSome then withSl b fun b off => 0 ≤ j ∧ j < len ∧ K (fin o st (.pointer (some ⟨b, off + j.toNat * E.P.cellsOf e, none⟩))) u else False)
      | some (.array len e), .complex .f64 k off, .int _ j => (bif decide (0 ≤ j) && decide (j < len) && (E.P.info? e).isSome then K (fin o st (fake k (off + j.toNat * E.P.cellsOf e))) u else False)
      | _, _, _ => False) : Snd E C fz o st θ K Q a wa := by
  have hx : okOp C.n x = true := opd hok (by simp [ho, Op.operands])
  have hi : okOp C.n i = true := opd hok (by simp [ho, Op.operands])
  split at h
  · rename_i e b len c k j hu he hei
    obtain ⟨hin, h⟩ := bif_elim h
    obtain ⟨ie, hie⟩ := Option.isSome_iff_exists.1 hin
    obtain ⟨bb, off, rfl, h1, h2, h⟩ := withSl_elim h
    refine up_value (r := .pointer (some ⟨bb, off + j.toNat * E.P.cellsOf e, none⟩)) (wb := wa) ?_ (post_finP hok hI rfl h)
    simp only [execOp, ho, ev_val hI hx he rfl, ev_val hI hi hei rfl, Instr.indexAt, asIntOf, Sem.run_bind, Sem.run_pure, Result.andThen_ok, run_under hu]
    rw [if_pos ⟨h1, h2⟩]
    simp only [Sem.run_bind, run_size hie, Result.andThen_ok, Sem.run_pure, add_addr]
  · rename_i len e k off kk j hu he hei
    obtain ⟨hc, h⟩ := bif_elim h
    simp only [Bool.and_eq_true, decide_eq_true_eq] at hc
    obtain ⟨⟨h1, h2⟩, hin⟩ := hc
    obtain ⟨ie, hie⟩ := Option.isSome_iff_exists.1 hin
    obtain ⟨hev, hm⟩ := ev_fk hI hx he
    refine up_value (r := .pointer (some ⟨θ k, off + j.toNat * E.P.cellsOf e, none⟩)) (wb := wa) ?_ ?_
    · simp only [execOp, ho, hev, ev_val hI hi hei rfl, Instr.indexAt, asIntOf, Sem.run_bind, Sem.run_pure, Result.andThen_ok, run_under hu, Instr.sureAddr]
      rw [if_pos ⟨h1, h2⟩]
      simp only [Sem.run_bind, run_size hie, Result.andThen_ok, Sem.run_pure, add_addr]
    · exact post_fin hok hI (v := fake k _) rfl (fun k' o' e => by simp only [Value.complex.injEq, true_and] at e; rw [← e.1]; exact hm) h
  · exact h.elim

theorem s_idx {t : TypeId} {x i : Operand} (ho : o.op = .index t x i) (hok : okOper C.n o = true) (hI : Inv C a wa st u θ)
    (h : match E.P.underlying t, ev st.σ x, ev st.σ i with
      | some .string, .string s, .int _ j => 0 ≤ j ∧ ∃ c : UInt8, s[j.toNat]? = some c ∧ K (fin o st (.int .u8 c.toNat)) u
      | some (.array len e), .agg cs, .int _ j => 0 ≤ j ∧ j < len ∧ (E.P.info? e).isSome = true ∧ ∃ v, eltV E.P e (j.toNat * E.P.cellsOf e) cs.toList = some v ∧ plain v = true ∧ K (fin o st v) u
      | _, _, _ => False) : Snd E C fz o st θ K Q a wa := by
  have hx : okOp C.n x = true := opd hok (by simp [ho, Op.operands])
  have hi : okOp C.n i = true := opd hok (by simp [ho, Op.operands])
  split at h
  · rename_i s k j hu he hei
    obtain ⟨h1, c, h2, h⟩ := h
    refine up_value (r := .int .u8 c.toNat) (wb := wa) ?_ (post_finP hok hI rfl h)
    simp only [execOp, ho, ev_val hI hx he rfl, ev_val hI hi hei rfl, Instr.index, asIntOf, Sem.run_bind, Sem.run_pure, Result.andThen_ok, run_under hu, if_pos h1, h2]
  · rename_i len e cs k j hu he hei
    obtain ⟨h1, h2, hin, v, hv, hpv, h⟩ := h
    obtain ⟨ie, hie⟩ := Option.isSome_iff_exists.1 hin
    refine up_value (r := v) (wb := wa) ?_ (post_finP hok hI hpv h)
    simp only [execOp, ho, ev_val hI hx he rfl, ev_val hI hi hei rfl, Instr.index, asIntOf, Sem.run_bind, Sem.run_pure, Result.andThen_ok, run_under hu, if_pos (show (0 : Int) ≤ j ∧ j < len from ⟨h1, h2⟩), run_size hie]
    rw [run_elt hv]; rfl
  · exact h.elim

theorem pairs_eq (hI : Inv C a wa st u θ) {ps : Array (Nat × Operand)} (h : ∀ x ∈ ps.toList, okOp C.n x.2 = true) (hp : (ps.toList.all fun p => plain (ev st.σ p.2)) = true) :
    (ps.map fun p => (p.1, a.eval p.2)) = (ps.toList.map fun p => (p.1, ev st.σ p.2)).toArray := by
  apply Array.toList_inj.1
  simp only [Array.toList_map]
  apply List.map_congr_left
  intro p hpm
  rw [ev_eq hI (h p hpm) (List.all_eq_true.1 hp p hpm)]

theorem s_bld {t : TypeId} {ps : Array (Nat × Operand)} (ho : o.op = .build t ps) (hok : okOper C.n o = true) (hI : Inv C a wa st u θ)
    (h : bif ps.toList.all fun p => plain (ev st.σ p.2) then (match bld E.P t (ps.toList.map fun p => (p.1, ev st.σ p.2)) with
      | some vs => K (fin o st (.agg vs.toArray)) u
      | none => False) else False) : Snd E C fz o st θ K Q a wa := by
  obtain ⟨hp, h⟩ := bif_elim h
  have hx : ∀ x ∈ ps.toList, okOp C.n x.2 = true := fun x hx => opd hok (by simp only [ho, Op.operands]; simp only [List.mem_toArray, List.mem_map]; exact ⟨x, hx, rfl⟩)
  cases hb : bld E.P t (ps.toList.map fun p => (p.1, ev st.σ p.2)) with
  | none => simp only [hb] at h
  | some vs =>
    simp only [hb] at h
    refine up_value (r := .agg vs.toArray) (wb := wa) ?_ (post_finP hok hI rfl h)
    have e := pairs_eq hI hx hp
    simp only [execOp, ho, e, Sem.run_bind]
    rw [run_build (r := vs) (by simpa using hb)]
    rfl

theorem s_bls {t : TypeId} {len : Nat} {ps : Array (Nat × Operand)} (ho : o.op = .buildSlice t len ps) (hok : okOper C.n o = true) (hI : Inv C a wa st u θ)
    (h : bif (ps.toList.all fun p => plain (ev st.σ p.2)) && Nat.beq ps.toList.length len then (match elemT E.P t with
      | none => False
      | some e => match bldL (E.P.cellsOf e) 0 (ps.toList.map fun p => (p.1, ev st.σ p.2)) with
        | some vs => bif Nat.ble vs.length 65536 && ((E.P.info? e).bind (·.zero)).isSome && !Nat.beq (E.P.cellsOf e) 0 then
            ∀ (b : Nat) (w' : World), Born u.toWorld w' b (.cells vs.toArray e (0, 0)) → K (fin o st (.slice (some ⟨b, 0, none⟩) len len)) (u.born b w') else False
        | none => False) else False) : Snd E C fz o st θ K Q a wa := by
  obtain ⟨hc, h⟩ := bif_elim h
  simp only [Bool.and_eq_true, beq_iff] at hc
  obtain ⟨hp, hlen⟩ := hc
  have hx : ∀ x ∈ ps.toList, okOp C.n x.2 = true := fun x hx => opd hok (by simp only [ho, Op.operands]; simp only [List.mem_toArray, List.mem_map]; exact ⟨x, hx, rfl⟩)
  unfold elemT at h
  cases hu : E.P.underlying t with
  | none => simp only [hu] at h
  | some d =>
    cases d <;> simp only [hu] at h
    rename_i e
    cases hb : bldL (E.P.cellsOf e) 0 (ps.toList.map fun p => (p.1, ev st.σ p.2)) with
    | none => simp only [hb] at h
    | some vs =>
      simp only [hb] at h
      obtain ⟨hc, h⟩ := bif_elim h
      simp only [Bool.and_eq_true, Nat.ble_eq, Bool.not_eq_true'] at hc
      obtain ⟨⟨h1, h2⟩, h3⟩ := hc
      obtain ⟨z, hz⟩ := Option.isSome_iff_exists.1 h2
      have hnz : E.P.cellsOf e ≠ 0 := fun e0 => by rw [beq_iff.2 e0] at h3; cases h3
      obtain ⟨ie, hie⟩ := cellsOf_info hnz
      have hvl := bldL_len hb
      simp only [List.length_map, hlen] at hvl
      obtain ⟨w', hb', hI'⟩ := hI.born (.cells vs.toArray e (0, 0))
      refine up_value (r := .slice (some ⟨wa.heap.size, 0, none⟩) len len) (wb := wa.alloc (.cells vs.toArray e (0, 0))) ?_ (post_finP hok hI' rfl (h _ _ hb'))
      have e0 := pairs_eq hI hx hp
      simp only [execOp, ho, e0, Sem.run_bind, Instr.buildSlice, run_under hu, Result.andThen_ok, run_size hie]
      rw [if_neg (by rw [← hvl]; omega)]
      have hfill : ∀ cs : Array Value, cs.size = len * E.P.cellsOf e → Instr.fill (fun i => some (i * E.P.cellsOf e, E.P.cellsOf e)) cs (ps.toList.map fun p => (p.1, ev st.σ p.2)) = some vs.toArray := by
        intro cs hcs
        rw [bldL_fill _ 0 vs cs hb (by simp only [List.length_map, hlen, Nat.zero_add]; exact hcs)]
        simp
      have hzr : (if len * E.P.cellsOf e = 0 then (pure #[] : Sem (Array Value)) else do pure (← zeroValue e).cells).run E.P wa = .ok (if len * E.P.cellsOf e = 0 then #[] else z.cells) wa := by
        split
        · rfl
        · simp only [Sem.run_bind, run_zero hz, Result.andThen_ok, Sem.run_pure]
      split
      · rename_i hl0
        simp only [Sem.run_bind, Sem.run_pure, Result.andThen_ok]
        rw [hfill _ (by simp)]
        simp only [newRow, Sem.run_bind, run_newObj, Result.andThen_ok, Sem.run_pure]
        rfl
      · simp only [Sem.run_bind, run_zero hz, Sem.run_pure, Result.andThen_ok]
        rw [hfill _ (by simp)]
        simp only [newRow, Sem.run_bind, run_newObj, Result.andThen_ok, Sem.run_pure]
        rfl

theorem run_bls {t : TypeId} {len : Nat} {ps : Array (Nat × Operand)} (ho : o.op = .buildSlice t len ps) (hok : okOper C.n o = true) (hI : Inv C a wa st u θ)
    (h : bif (ps.toList.all fun p => plain (ev st.σ p.2)) && Nat.beq ps.toList.length len then (match elemT E.P t with
      | none => False
      | some e => match bldL (E.P.cellsOf e) 0 (ps.toList.map fun p => (p.1, ev st.σ p.2)) with
        | some vs => bif Nat.ble vs.length 65536 && ((E.P.info? e).bind (·.zero)).isSome && !Nat.beq (E.P.cellsOf e) 0 then
            ∀ (b : Nat) (w' : World), Born u.toWorld w' b (.cells vs.toArray e (0, 0)) → K (fin o st (.slice (some ⟨b, 0, none⟩) len len)) (u.born b w') else False
        | none => False) else False) : ∃ v ob, (execOp a.eval o).run E.P wa = .ok (.value v) (wa.alloc ob) := by
  obtain ⟨hc, h⟩ := bif_elim h
  simp only [Bool.and_eq_true, beq_iff] at hc
  obtain ⟨hp, hlen⟩ := hc
  have hx : ∀ x ∈ ps.toList, okOp C.n x.2 = true := fun x hx => opd hok (by simp only [ho, Op.operands]; simp only [List.mem_toArray, List.mem_map]; exact ⟨x, hx, rfl⟩)
  unfold elemT at h
  cases hu : E.P.underlying t with
  | none => simp only [hu] at h
  | some d =>
    cases d <;> simp only [hu] at h
    rename_i e
    cases hb : bldL (E.P.cellsOf e) 0 (ps.toList.map fun p => (p.1, ev st.σ p.2)) with
    | none => simp only [hb] at h
    | some vs =>
      simp only [hb] at h
      obtain ⟨hc, h⟩ := bif_elim h
      simp only [Bool.and_eq_true, Nat.ble_eq, Bool.not_eq_true'] at hc
      obtain ⟨⟨h1, h2⟩, h3⟩ := hc
      obtain ⟨z, hz⟩ := Option.isSome_iff_exists.1 h2
      have hnz : E.P.cellsOf e ≠ 0 := fun e0 => by rw [beq_iff.2 e0] at h3; cases h3
      obtain ⟨ie, hie⟩ := cellsOf_info hnz
      have hvl := bldL_len hb
      simp only [List.length_map, hlen] at hvl
      refine ⟨.slice (some ⟨wa.heap.size, 0, none⟩) len len, .cells vs.toArray e (0, 0), ?_⟩
      have e0 := pairs_eq hI hx hp
      simp only [execOp, ho, e0, Sem.run_bind, Instr.buildSlice, run_under hu, Result.andThen_ok, run_size hie]
      rw [if_neg (by rw [← hvl]; omega)]
      have hfill : ∀ cs : Array Value, cs.size = len * E.P.cellsOf e → Instr.fill (fun i => some (i * E.P.cellsOf e, E.P.cellsOf e)) cs (ps.toList.map fun p => (p.1, ev st.σ p.2)) = some vs.toArray := by
        intro cs hcs
        rw [bldL_fill _ 0 vs cs hb (by simp only [List.length_map, hlen, Nat.zero_add]; exact hcs)]
        simp
      have hzr : (if len * E.P.cellsOf e = 0 then (pure #[] : Sem (Array Value)) else do pure (← zeroValue e).cells).run E.P wa = .ok (if len * E.P.cellsOf e = 0 then #[] else z.cells) wa := by
        split
        · rfl
        · simp only [Sem.run_bind, run_zero hz, Result.andThen_ok, Sem.run_pure]
      split
      · rename_i hl0
        simp only [Sem.run_bind, Sem.run_pure, Result.andThen_ok]
        rw [hfill _ (by simp)]
        simp only [newRow, Sem.run_bind, run_newObj, Result.andThen_ok, Sem.run_pure]
        rfl
      · simp only [Sem.run_bind, run_zero hz, Sem.run_pure, Result.andThen_ok]
        rw [hfill _ (by simp)]
        simp only [newRow, Sem.run_bind, run_newObj, Result.andThen_ok, Sem.run_pure]
        rfl

/-! ### builtins -/
theorem run_builtin {P : Program} {b : Builtin} {args : Array Operand} {ts : Array TypeId} {w : World} {s : Sem Value} {v : Value} {w' : World} (ho : o.op = .call ⟨.builtin b, args, ts⟩)
    (hb : ∀ consts, builtin b ts o.type consts (args.map a.eval) = (do pure (.value (← s)) : Sem Next)) (hs : s.run P w = .ok v w') :
    (execOp a.eval o).run P w = .ok (.value v) w' := by
  simp only [execOp, ho, resolve, Sem.run_bind, Sem.run_pure, Result.andThen_ok, invoke]
  rw [hb]
  simp only [Sem.run_bind, hs, Result.andThen_ok, Sem.run_pure]

theorem ints_eq (hI : Inv C a wa st u θ) : ∀ {xs : List Operand} {k : IntKind} {is : List Int}, (∀ x ∈ xs, okOp C.n x = true) → intsOf (ev st.σ) xs = some (k, is) → xs.map a.eval = is.map (Value.int k) ∧ is ≠ []
  | [], _, _, _, h => by simp [intsOf] at h
  | [x], k, is, hok, h => by
    simp only [intsOf] at h
    split at h
    · rename_i k' i he
      simp only [Option.some.injEq, Prod.mk.injEq] at h
      obtain ⟨rfl, rfl⟩ := h
      simp [ev_val hI (hok x (by simp)) he rfl]
    · cases h
  | x :: y :: l, k, is, hok, h => by
    simp only [intsOf] at h
    split at h
    · rename_i k1 i k2 js he hr
      simp only [Bool.cond_eq_ite] at h
      split at h
      · rename_i hk
        simp only [decide_eq_true_eq] at hk
        simp only [Option.some.injEq, Prod.mk.injEq] at h
        obtain ⟨rfl, rfl⟩ := h
        subst hk
        obtain ⟨h1, _⟩ := ints_eq hI (xs := y :: l) (fun z hz => hok z (by simp [hz])) hr
        refine ⟨?_, by simp⟩
        rw [List.map_cons, h1, ev_val hI (hok x (by simp)) he rfl]; rfl
      · cases h
    · cases h

theorem run_min {P : Program} {w : World} {k : IntKind} : ∀ (is : List Int) (i : Int), ((is.map (Value.int k)).foldlM Builtin.min2 (.int k i)).run P w = .ok (.int k (is.foldl (fun x y => if y < x then y else x) i)) w
  | [], i => by simp
  | j :: is, i => by simp only [List.map_cons, List.foldlM_cons, Builtin.min2, Sem.run_bind, Sem.run_pure, Result.andThen_ok, List.foldl_cons]; exact run_min is _

theorem run_max {P : Program} {w : World} {k : IntKind} : ∀ (is : List Int) (i : Int), ((is.map (Value.int k)).foldlM Builtin.max2 (.int k i)).run P w = .ok (.int k (is.foldl (fun x y => if y > x then y else x) i)) w
  | [], i => by simp
  | j :: is, i => by simp only [List.map_cons, List.foldlM_cons, Builtin.max2, Sem.run_bind, Sem.run_pure, Result.andThen_ok, List.foldl_cons]; exact run_max is _

theorem run_first {P : Program} {w : World} {size m c : Nat} {xb : Option Addr} {new : List Value} (h0 : m = 0 → new = []) (h1 : m ≠ 0 → ∃ b off C T f, xb = some ⟨b, off, none⟩ ∧ w.heap[b]? = some (.cells C T f) ∧ off + m * size ≤ C.size ∧ new = (C.toList.drop off).take (m * size)) :
    (Builtin.firstCells size m (.slice xb m c)).run P w = .ok new.toArray w := by
  by_cases hm : m = 0
  · subst hm
    rw [h0 rfl]
    cases xb <;> simp [Builtin.firstCells, loadCells, loadCellsFrom]
  · obtain ⟨b, off, C, T, f, rfl, hb, hl, rfl⟩ := h1 hm
    simp only [Builtin.firstCells]
    exact loadCells_run hb hl

theorem s_app {x y : Operand} {t t' e e' : TypeId} {base xb : Option Addr} {n cap m c' : Nat} (ho : o.op = .call ⟨.builtin .append, #[x, y], #[t, t']⟩) (hok : okOper C.n o = true) (hI : Inv C a wa st u θ)
    (hu : E.P.underlying t = some (.slice e)) (hu' : E.P.underlying t' = some (.slice e')) (hx : ev st.σ x = .slice base n cap) (hy : ev st.σ y = .slice xb m c')
    (h : cApp E.P e base n cap xb m u fun p q r w' => K (fin o st (.slice p q r)) w') : Snd E C fz o st θ K Q a wa := by
  have kx : okOp C.n x = true := opd hok (by simp [ho, Op.operands, Call.operands])
  have ky : okOp C.n y = true := opd hok (by simp [ho, Op.operands, Call.operands])
  have hex := ev_val hI kx hx rfl
  have hey := ev_val hI ky hy rfl
  obtain ⟨size, bytes, zero, old, new, hinfo, hn0, hn1, ho0, ho1, hcap, hby, h62, hzl, hone, hroom, hgrow⟩ := h
  cases hi : E.P.info? e with
  | none => simp [hi] at hinfo
  | some i =>
    simp only [hi, Option.map_some, Option.some.injEq, Prod.mk.injEq] at hinfo
    obtain ⟨rfl, rfl, hz⟩ := hinfo
    cases hzz : i.zero with
    | none => simp [hzz] at hz
    | some z =>
      simp only [hzz, Option.map_some, Option.some.injEq] at hz
      subst hz
      have hzr : (E.P.info? e).bind (·.zero) = some z := by simp [hi, hzz]
      have rdw : ∀ {A : Option Addr} {k : Nat} {vs : List Value}, (k * i.size ≠ 0) → (withSl A fun b o => rd u.heap b o (k * i.size) = some vs) → ∃ b off C T f, A = some ⟨b, off, none⟩ ∧ wa.heap[b]? = some (.cells C T f) ∧ off + k * i.size ≤ C.size ∧ vs = (C.toList.drop off).take (k * i.size) := by
        intro A k vs hk hw
        obtain ⟨b, off, rfl, hrd⟩ := withSl_elim hw
        obtain ⟨C, T, f, c1, c2, c3⟩ := rd_sees hI.below hrd hk
        exact ⟨b, off, C, T, f, rfl, c1, c2, c3⟩
      have rd0 : ∀ {A : Option Addr} {k : Nat} {vs : List Value}, (k * i.size = 0) → (withSl A fun b o => rd u.heap b o (k * i.size) = some vs) → vs = [] := by
        intro A k vs hk hw
        obtain ⟨b, off, rfl, hrd⟩ := withSl_elim hw
        rw [hk] at hrd
        obtain ⟨_, _, _, h | h⟩ := rd_sees0 hI.below hrd
        · exact List.eq_nil_of_length_eq_zero h.2
        · exact h.2
      have first : ∀ {A : Option Addr} {k c : Nat} {vs : List Value} (w : World), w.heap = wa.heap → (k = 0 → vs = []) → (k ≠ 0 → withSl A fun b o => rd u.heap b o (k * i.size) = some vs) → (Builtin.firstCells i.size k (.slice A k c)).run E.P w = .ok vs.toArray w := by
        intro A k c vs w hw h0 h1
        by_cases hk : k = 0
        · exact run_first h0 (fun h => absurd hk h)
        · by_cases hks : k * i.size = 0
          · have hvs := rd0 hks (h1 hk)
            subst hvs
            obtain ⟨b, off, rfl, _⟩ := withSl_elim (h1 hk)
            simp [Builtin.firstCells, loadCells, hks, loadCellsFrom]
          · exact run_first h0 (fun _ => by rw [hw]; exact rdw hks (h1 hk))
      by_cases hr : n + m ≤ cap
      · rcases hroom hr with ⟨hm, hK⟩ | ⟨hm, hst⟩
        · subst hm
          refine up_value (r := .slice base n cap) (wb := wa) ?_ (post_finP hok hI rfl hK)
          refine run_builtin (s := Builtin.append_ #[t, t'] o.type #[.slice base n cap, .slice xb 0 c']) ho (fun _ => by simp only [builtin, List.map_toArray, List.map_cons, List.map_nil, hex, hey]) ?_
          have hf := first (A := xb) (k := 0) (c := c') wa rfl hn0 (fun h => absurd rfl h)
          have hnn : new = [] := hn0 rfl
          subst hnn
          simp only [Nat.add_zero] at hr
          simp [Builtin.append_, run_under hu, run_under hu', sizeOf, typeInfo, hi, Builtin.lenOf, hr, hf, storeCells]
          cases base <;> simp
        · obtain ⟨b, off, rfl, hst⟩ := withSl_elim hst
          have hf := first (A := xb) (k := m) (c := c') wa rfl hn0 hn1
          by_cases hne : new = []
          · subst hne
            obtain ⟨cc, T, q1, q2, q3, q4⟩ := hst
            have hS : Sto u.toWorld u.toWorld b (.cells cc T (0, 0)) := ⟨rfl, rfl, rfl, Nat.le_refl _, q1, fun _ _ _ => rfl⟩
            refine up_value (r := .slice (some ⟨b, off, none⟩) (n + m) cap) (wb := wa) ?_ (post_finP hok (u' := u.sto u.toWorld) (θ := θ) hI rfl (q4 _ hS))
            refine run_builtin (s := Builtin.append_ #[t, t'] o.type #[.slice (some ⟨b, off, none⟩) n cap, .slice xb m c']) ho (fun _ => by simp only [builtin, List.map_toArray, List.map_cons, List.map_nil, hex, hey]) ?_
            simp [Builtin.append_, run_under hu, run_under hu', sizeOf, typeInfo, hi, Builtin.lenOf, hr, hf, storeCells]
          · obtain ⟨cc, T, w', c1, c2, hI', hK⟩ := pub_store hI hst hne
            refine up_value (r := .slice (some ⟨b, off, none⟩) (n + m) cap) (wb := setB wa b (.cells (wrA cc (off + n * i.size) new) T (0, 0))) ?_ (post_finP hok hI' rfl hK)
            refine run_builtin (s := Builtin.append_ #[t, t'] o.type #[.slice (some ⟨b, off, none⟩) n cap, .slice xb m c']) ho (fun _ => by simp only [builtin, List.map_toArray, List.map_cons, List.map_nil, hex, hey]) ?_
            have hsr := storeCells_run (P := E.P) (b := b) (o := off + n * i.size) (T := T) new 0 wa cc c1 (by omega) hone
            simp only [Nat.add_zero] at hsr
            simp [Builtin.append_, run_under hu, run_under hu', sizeOf, typeInfo, hi, Builtin.lenOf, hr, hf, add_addr, hsr]
      · have hlt : cap < n + m := by omega
        have hI1 := hI.drew
        have hge : n + m ≤ grownCap wa (n + m) cap e := grownCap_ge wa (n + m) cap e
        obtain ⟨w', hb, hI'⟩ := hI1.born (.cells (old ++ new ++ (Builtin.zeroCells z.cells (grownCap wa (n + m) cap e - (n + m))).toList).toArray e (0, 0))
        have hK := hgrow hlt (grownCap wa (n + m) cap e) wa.heap.size (Builtin.zeroCells z.cells (grownCap wa (n + m) cap e - (n + m))).toList w' hge (by simp only [Array.length_toList, size_zeroCells]; rw [← hzl]; simp) hb
        refine up_value (r := .slice (some ⟨wa.heap.size, 0, none⟩) (n + m) (grownCap wa (n + m) cap e)) ?_ (post_finP hok hI' rfl hK)
        refine run_builtin (s := Builtin.append_ #[t, t'] o.type #[.slice base n cap, .slice xb m c']) ho (fun _ => by simp only [builtin, List.map_toArray, List.map_cons, List.map_nil, hex, hey]) ?_
        have hfit := growslice_fits hlt hby
        have h63' : ¬ (9223372036854775807 < ((n : Int) + (m : Int))) := by omega
        have h48' : ¬ (281474976710656 < Builtin.nextslicecap (n + m) cap * i.bytes) := by omega
        have hf := first (A := xb) (k := m) (c := c') wa.drew rfl hn0 hn1
        have hfo := first (A := base) (k := n) (c := cap) wa.drew rfl ho0 ho1
        simp [Builtin.append_, run_under hu, run_under hu', sizeOf, typeInfo, zeroValue, hi, hzz, Builtin.lenOf, hr, h63', h48', Question.forced, hf, hfo, newRow, grownCap]
        congr 2
        apply Array.ext'
        simp

end
end Go.Eng
