import Derived.Test.YtdiimonfmdbclaaEngD
/-
  The engine, fifth part: each operation does what W1 says.
-/
namespace Go.Eng
open Go.RowKit

def okOp (n : Nat) (x : Operand) : Bool :=
  match x with
  | .tmp t => Nat.blt t n
  | .const v => plain v
  | _ => true

def noDefer (o : Oper) : Bool := match o.op with | .defer _ => false | _ => true
def okOper (n : Nat) (o : Oper) : Bool := o.op.operands.toList.all (okOp n) && (match o.dst with | some d => Nat.blt d n | none => true) && noDefer o

theorem okOper_defer {n : Nat} {o : Oper} (hok : okOper n o = true) (c : Call) : o.op ≠ .defer c := by
  intro e
  simp [okOper, noDefer, e] at hok

theorem blt_iff {a b : Nat} : Nat.blt a b = true ↔ a < b := by simp [Nat.blt_eq]

variable {C : Ctx} {a : Act} {wa : World} {st : St} {u : UW} {θ : Nat → Nat}

theorem ev_R (hI : Inv C a wa st u θ) {x : Operand} (hx : okOp C.n x = true) : R θ (ev st.σ x) (a.eval x) := by
  cases x with
  | tmp t => exact hI.slots t (blt_iff.1 hx)
  | const v => exact R_refl hx
  | global g => exact R_refl rfl
  | func f => exact R_refl rfl

theorem ev_eq (hI : Inv C a wa st u θ) {x : Operand} (hx : okOp C.n x = true) (hp : plain (ev st.σ x) = true) : a.eval x = ev st.σ x := (R_plain hp).1 (ev_R hI hx)

theorem ev_val (hI : Inv C a wa st u θ) {x : Operand} (hx : okOp C.n x = true) {v : Value} (he : ev st.σ x = v) (hp : plain v = true) : a.eval x = v := by
  subst he; exact ev_eq hI hx hp

theorem ev_fk (hI : Inv C a wa st u θ) {x : Operand} (hx : okOp C.n x = true) {k o : Nat} (he : ev st.σ x = fake k o) : a.eval x = .pointer (some ⟨θ k, o, none⟩) ∧ ∃ m, (k, m) ∈ st.D := by
  have h := ev_R hI hx
  rw [he] at h
  refine ⟨h, ?_⟩
  cases x with
  | tmp t => exact hI.fakes t (blt_iff.1 hx) k o he
  | const v => simp only [ev] at he; subst he; simp [okOp, plain] at hx
  | global g => simp [ev] at he
  | func f => simp [ev] at he

/-- Behind an operation. -/
def PostW (C : Ctx) (fz : List Nat) (o : Oper) (st : St) (θ : Nat → Nat) (nd : Bool) (K : St → UW → Prop) (a' : Act) (wa' : World) : Prop :=
  ∃ st' u' θ', Inv C a' wa' st' u' θ' ∧ Pres C.n fz o.dst.toList st st' ∧ (∀ k m, (k, m) ∈ st.D → θ' k = θ k) ∧ (nd = false → st'.D = st.D) ∧ K st' u'

theorem dst_lt {n : Nat} {o : Oper} (hok : okOper n o = true) : ∀ t, o.dst = some t → t < n := by
  intro t ht
  simp only [okOper, Bool.and_eq_true] at hok
  have := hok.1.2
  rw [ht] at this
  exact blt_iff.1 this

theorem opd {n : Nat} {o : Oper} (hok : okOper n o = true) {x : Operand} (hx : x ∈ o.op.operands) : okOp n x = true := by
  simp only [okOper, Bool.and_eq_true, List.all_eq_true] at hok
  exact hok.1.1 x (by simpa using hx)

theorem post_fin {nd : Bool} {wb : World} {u' : UW} {fz : List Nat} {o : Oper} {K : St → UW → Prop} (hok : okOper C.n o = true) (hI : Inv C a wb st u' θ) {v r : Value} (hr : R θ v r)
    (hf : ∀ k o, v = fake k o → ∃ m, (k, m) ∈ st.D) (hK : K (fin o st v) u') : PostW C fz o st θ nd K (a.put o.dst r) wb :=
  ⟨_, _, _, hI.fin o.dst (dst_lt hok) hr hf, Pres.fin st o.dst (dst_lt hok) hI.n_le v, fun _ _ _ => rfl, fun _ => rfl, hK⟩

theorem post_finP {nd : Bool} {wb : World} {u' : UW} {fz : List Nat} {o : Oper} {K : St → UW → Prop} (hok : okOper C.n o = true) (hI : Inv C a wb st u' θ) {v : Value} (hp : plain v = true)
    (hK : K (fin o st v) u') : PostW C fz o st θ nd K (a.put o.dst v) wb :=
  post_fin hok hI (R_refl hp) (fun k o e => absurd e (not_fake hp k o)) hK

/-! ### types -/
theorem info_of_under {P : Program} {t : TypeId} {d : TypeDesc} (h : P.underlying t = some d) : ∃ i, P.info? t = some i := by
  unfold Program.underlying at h
  cases hi : P.info? t with
  | none => simp [hi] at h
  | some i => exact ⟨i, rfl⟩

theorem run_under {P : Program} {t : TypeId} {d : TypeDesc} {w : World} (h : P.underlying t = some d) : (underlying t).run P w = .ok d w := by
  simp [underlying, h]

theorem run_info {P : Program} {t : TypeId} {i : TypeInfo} {w : World} (h : P.info? t = some i) : (typeInfo t).run P w = .ok i w := by
  simp [typeInfo, h]

theorem run_size {P : Program} {t : TypeId} {i : TypeInfo} {w : World} (h : P.info? t = some i) : (sizeOf t).run P w = .ok (P.cellsOf t) w := by
  simp [sizeOf, run_info h, Program.cellsOf, h]

theorem run_zero {P : Program} {t : TypeId} {z : Value} {w : World} (h : (P.info? t).bind (·.zero) = some z) : (zeroValue t).run P w = .ok z w := by
  cases hi : P.info? t with
  | none => simp [hi] at h
  | some i => simp only [hi, Option.bind_some] at h; simp [zeroValue, run_info hi, h]

theorem run_isAgg {P : Program} {t : TypeId} {d : TypeDesc} {w : World} (h : P.underlying t = some d) : (isAgg t).run P w = .ok (aggT P t) w := by
  simp only [isAgg, Sem.run_bind, run_under h, Result.andThen_ok, aggT, h]
  cases d <;> rfl

theorem kinds_spec {P : Program} {t : TypeId} {ks : List K1} (h : kinds P t = some ks) : ks.length = P.cellsOf t ∧ (∃ d, P.underlying t = some d) ∧ (aggT P t = true ∨ ks.length = 1) := by
  unfold kinds at h
  cases hk : kindsF P 8 t with
  | none => simp [hk] at h
  | some ks' =>
    simp only [hk, Bool.cond_eq_ite, beq_iff] at h
    split at h
    · rename_i h1
      split at h
      · rename_i h2
        simp only [Option.some.injEq] at h
        subst h
        refine ⟨h1, ?_, ?_⟩
        · unfold kindsF at hk
          cases hu : P.underlying t with
          | none => simp [hu] at hk
          | some d => exact ⟨d, rfl⟩
        · simpa [beq_iff] using h2
      · cases h
    · cases h

theorem run_loadVar {P : Program} {w : World} {t : TypeId} {ks : List K1} {b o : Nat} {c : Array Value} {T : TypeId} {f : Nat × Nat} (hk : kinds P t = some ks) (h : w.heap[b]? = some (.cells c T f)) (hl : o + ks.length ≤ c.size) :
    (loadVar t ⟨b, o, none⟩).run P w = .ok (mkV (aggT P t) ((c.toList.drop o).take ks.length)) w := by
  obtain ⟨h1, ⟨d, hd⟩, h2⟩ := kinds_spec hk
  obtain ⟨i, hi⟩ := info_of_under hd
  simp only [loadVar, Sem.run_bind, run_isAgg hd, Result.andThen_ok]
  cases hag : aggT P t with
  | true =>
    simp only [if_true, Sem.run_bind, run_size hi, Result.andThen_ok]
    rw [← h1, loadCells_run h hl]
    rfl
  | false =>
    have hone : ks.length = 1 := by rcases h2 with h2 | h2; (rw [hag] at h2; cases h2); exact h2
    simp only [Bool.false_eq_true, if_false, run_load, cell_of h]
    have hlt : o < c.size := by omega
    rw [Array.getElem?_eq_getElem hlt, hone]
    have hlt' : o < c.toList.length := by simpa using hlt
    rw [List.drop_eq_getElem_cons hlt']
    simp [mkV]

theorem run_storeVar {P : Program} {w : World} {t : TypeId} {i : TypeInfo} {b o : Nat} {c : Array Value} {T : TypeId} {v : Value} (hi : P.info? t = some i) (hs : v.cells.size = P.cellsOf t) (h : w.heap[b]? = some (.cells c T (0, 0)))
    (hl : o + v.cells.size ≤ c.size) (ho : ∀ x ∈ v.cells.toList, one x = true) : (storeVar t ⟨b, o, none⟩ v).run P w = .ok () (setB w b (.cells (wrA c o v.cells.toList) T (0, 0))) := by
  simp only [storeVar, Sem.run_bind, run_size hi, Result.andThen_ok]
  rw [if_neg (by simp [hs])]
  rw [storeCells_run _ 0 w c h (by simpa using hl) ho]
  rfl

/-! ### reading what the engine's world shows -/
theorem rd_sees {w w1 : World} (hs : Sees w w1) {b o n : Nat} {vs : List Value} (h : rd w.heap b o n = some vs) (hn : n ≠ 0) : ∃ c T f, w1.heap[b]? = some (.cells c T f) ∧ o + n ≤ c.size ∧ vs = (c.toList.drop o).take n := by
  unfold rd at h
  cases hb : w.heap[b]? with
  | none => simp [hb] at h
  | some ob =>
    have hlt : b < w.heap.size := (Array.getElem?_eq_some_iff.1 hb).1
    cases ob <;> simp only [hb] at h <;> try (cases h; done)
    rename_i c T f
    split at h
    · rename_i hl
      simp only [Option.some.injEq] at h
      rcases hs.block b hlt with e | e
      · exact ⟨c, T, f, by rw [← e, hb], hl, h.symm⟩
      · rw [hb] at e
        simp only [Option.some.injEq, Obj.cells.injEq] at e
        obtain ⟨rfl, _, _⟩ := e
        simp at hl; omega
    · cases h

theorem rd_sees0 {w w1 : World} (hs : Sees w w1) {b o n : Nat} {vs : List Value} (h : rd w.heap b o n = some vs) : ∃ c T f, w1.heap[b]? = some (.cells c T f) ∧ vs.length = n ∨ n = 0 ∧ vs = [] := by
  by_cases hn : n = 0
  · subst hn
    unfold rd at h
    refine ⟨#[], 0, (0, 0), .inr ⟨rfl, ?_⟩⟩
    cases hb : w.heap[b]? with
    | none => simp [hb] at h
    | some ob =>
      cases ob <;> simp only [hb] at h <;> try (cases h; done)
      split at h
      · simp at h; exact h
      · cases h
  · obtain ⟨c, T, f, h1, h2, h3⟩ := rd_sees hs h hn
    exact ⟨c, T, f, .inl ⟨h1, by subst h3; simp; omega⟩⟩

theorem withPtr_elim {v : Value} {F : Nat → Nat → Prop} (h : withPtr v F) : ∃ b o, v = .pointer (some ⟨b, o, none⟩) ∧ F b o := by
  unfold withPtr at h
  split at h
  · exact ⟨_, _, rfl, h⟩
  · exact h.elim

theorem withSl_elim {v : Option Addr} {F : Nat → Nat → Prop} (h : withSl v F) : ∃ b o, v = some ⟨b, o, none⟩ ∧ F b o := by
  unfold withSl at h
  split at h
  · exact ⟨_, _, rfl, h⟩
  · exact h.elim

theorem mkV_plain {ag : Bool} {vs : List Value} (h : ∀ v ∈ vs, plain v = true ∧ one v = true) (hl : ag = true ∨ vs.length = 1) : plain (mkV ag vs) = true := by
  cases ag with
  | true => rfl
  | false =>
    rcases hl with hl | hl
    · cases hl
    · match vs, hl with
      | [v], _ => exact (h v (by simp)).1

theorem boxSize_mem : ∀ {D : List (Nat × Nat)} {k m : Nat}, boxSize D k = some m → (k, m) ∈ D
  | [], _, _, h => by simp [boxSize] at h
  | (k', m') :: D, k, m, h => by
    simp only [boxSize, Bool.cond_eq_ite, beq_iff] at h
    split at h
    · rename_i e; simp only [Option.some.injEq] at h; subst e h; simp
    · exact List.mem_cons_of_mem _ (boxSize_mem h)

theorem cells_drop_take {σ : Fr} {θ : Nat → Nat} {c : Array Value} {k m : Nat} (hc : c.size = m) (hr : ∀ j, j < m → R θ (σ (gx k j)) (c.getD j undef)) :
    ∀ (n o : Nat), o + n ≤ m → (∀ v ∈ rdG σ k o n, plain v = true ∧ one v = true) → (c.toList.drop o).take n = rdG σ k o n
  | 0, o, _, _ => by simp [rdG]
  | n + 1, o, hl, hp => by
    have hlt : o < c.toList.length := by simp; omega
    rw [List.drop_eq_getElem_cons hlt, List.take_succ_cons]
    simp only [rdG]
    have hpo : plain (σ (gx k o)) = true := (hp _ (by simp [rdG])).1
    have h1 := (R_plain hpo).1 (hr o (by omega))
    have h2 : c.toList[o] = σ (gx k o) := by
      rw [← h1]; simp only [Array.getElem_toList]; rw [Array.getD_eq_getD_getElem?, Array.getElem?_eq_getElem (by omega)]; rfl
    rw [h2, cells_drop_take hc hr n (o + 1) (by omega) (fun v hv => hp v (by simp [rdG, hv]))]


theorem wrA_list : ∀ (vs : List Value) (c : Array Value) (o : Nat), o + vs.length ≤ c.size → (wrA c o vs).toList = c.toList.take o ++ vs ++ c.toList.drop (o + vs.length)
  | [], c, o, _ => by simp [wrA]
  | v :: vs, c, o, h => by
    simp only [List.length_cons] at h
    simp only [wrA]
    rw [wrA_list vs _ (o + 1) (by simp; omega)]
    have ho : o < c.toList.length := by simp; omega
    simp only [Array.toList_setIfInBounds]
    have h1 : (c.toList.set o v).take (o + 1) = c.toList.take o ++ [v] := by
      rw [List.take_set]
      rw [List.take_succ_eq_append_getElem ho, List.set_append_right _ _ (by simp; omega)]
      have e : o - (c.toList.take o).length = 0 := by simp; omega
      rw [e]; rfl
    have h2 : (c.toList.set o v).drop (o + 1 + vs.length) = c.toList.drop (o + 1 + vs.length) := by
      rw [List.drop_set_of_lt (by omega)]
    rw [h1, h2]
    simp [Nat.add_assoc, Nat.add_comm 1]

theorem fold_wrA : ∀ (l : List (Value × Nat)) (vs : List Value) (i off : Nat) (c : Array Value), l = vs.zipIdx i → l.foldl (fun cs p => cs.setIfInBounds (off + p.2) p.1) c = wrA c (off + i) vs
  | [], vs, i, off, c, h => by
    cases vs with
    | nil => rfl
    | cons v vs => simp at h
  | p :: l, vs, i, off, c, h => by
    cases vs with
    | nil => simp at h
    | cons v vs =>
      simp only [List.zipIdx_cons, List.cons.injEq] at h
      obtain ⟨rfl, rfl⟩ := h
      simp only [List.foldl_cons, wrA]
      rw [fold_wrA _ vs (i + 1) off _ rfl]
      rfl

theorem fill_step (vs : Array Value) (off : Nat) (cs : Array Value) :
    (vs.zipIdx.foldl (fun cs (x : Value × Nat) => match x with | (c, j) => cs.setIfInBounds (off + j) c) cs) = wrA cs off vs.toList := by
  rw [← Array.foldl_toList, Array.toList_zipIdx]
  exact fold_wrA _ vs.toList 0 off cs rfl

/-! ### building -/
theorem run_mapM_list {P : Program} {w : World} {α β : Type} (g : α → Sem β) (k : α → β) : ∀ (l : List α), (∀ x ∈ l, (g x).run P w = .ok (k x) w) → (l.mapM g).run P w = .ok (l.map k) w
  | [], _ => by simp
  | x :: l, h => by
    simp only [List.mapM_cons, Sem.run_bind, h x (by simp), Result.andThen_ok, run_mapM_list g k l (fun y hy => h y (by simp [hy])), Sem.run_pure, List.map_cons]

theorem run_mapM {P : Program} {w : World} {α β : Type} (g : α → Sem β) (k : α → β) (l : Array α) (h : ∀ x ∈ l.toList, (g x).run P w = .ok (k x) w) : (l.mapM g).run P w = .ok (l.toList.map k).toArray w := by
  rw [Array.mapM_eq_mapM_toList]
  simp only [Sem.run_map, run_mapM_list g k l.toList h, Result.andThen_ok]

theorem bldS_fill {P : Program} {fs : Array Field} {pl : Nat → Option (Nat × Nat)} (hpl : ∀ (i : Nat) f, fs[i]? = some f → pl i = some (f.offset, P.cellsOf f.type)) :
    ∀ (ps : List (Nat × Value)) (cs : Array Value) (r : List Value), bldS P fs ps cs.toList = some r → Instr.fill pl cs ps = some r.toArray
  | [], cs, r, h => by simp only [bldS, Option.some.injEq] at h; subst h; simp [Instr.fill]
  | (i, v) :: ps, cs, r, h => by
    simp only [bldS] at h
    cases hf : fs[i]? with
    | none => simp [hf] at h
    | some f =>
      simp only [hf, Bool.cond_eq_ite, Bool.and_eq_true, beq_iff, Nat.ble_eq] at h
      split at h
      · rename_i hc
        obtain ⟨⟨h1, h2⟩, _⟩ := hc
        simp only [Array.length_toList] at h2
        simp only [Instr.fill, hpl i f hf]
        rw [if_neg (by simp [h1]; omega)]
        rw [fill_step]
        have hlen : v.cells.toList.length = v.cells.size := by simp
        refine bldS_fill hpl ps _ r ?_
        rw [wrA_list _ _ _ (by rw [hlen]; omega), hlen]
        exact h
      · cases h

theorem bldL_len {size : Nat} : ∀ {ps : List (Nat × Value)} {i : Nat} {r : List Value}, bldL size i ps = some r → r.length = ps.length * size
  | [], _, r, h => by simp only [bldL, Option.some.injEq] at h; subst h; simp
  | (j, v) :: ps, i, r, h => by
    simp only [bldL, Bool.cond_eq_ite, Bool.and_eq_true, beq_iff] at h
    split at h
    · rename_i hc
      cases hb : bldL size (i + 1) ps with
      | none => simp [hb] at h
      | some l =>
        simp only [hb, Option.some.injEq] at h
        subst h
        have := bldL_len hb
        simp only [List.length_append, List.length_cons, Array.length_toList, this, hc.2, Nat.add_mul, Nat.one_mul]; omega
    · cases h

theorem bldL_fill {size : Nat} : ∀ (ps : List (Nat × Value)) (i : Nat) (r : List Value) (cs : Array Value), bldL size i ps = some r → cs.size = (i + ps.length) * size →
    Instr.fill (fun i => some (i * size, size)) cs ps = some (cs.toList.take (i * size) ++ r).toArray
  | [], i, r, cs, h, hs => by
    simp only [bldL, Option.some.injEq] at h; subst h
    simp only [List.length_nil, Nat.add_zero] at hs
    simp only [Instr.fill, ← hs, List.append_nil, Option.some.injEq]
    rw [List.take_of_length_le (by simp)]
  | (j, v) :: ps, i, r, cs, h, hs => by
    simp only [bldL, Bool.cond_eq_ite, Bool.and_eq_true, beq_iff] at h
    split at h
    · rename_i hc
      obtain ⟨rfl, hv⟩ := hc
      cases hb : bldL size (i + 1) ps with
      | none => simp [hb] at h
      | some l =>
        simp only [hb, Option.some.injEq] at h
        subst h
        simp only [List.length_cons] at hs
        have hle : i * size + v.cells.size ≤ cs.size := by
          rw [hs, hv, ← Nat.succ_mul]; exact Nat.mul_le_mul_right _ (by omega)
        simp only [Instr.fill]
        rw [if_neg (by simp [hv]; omega), fill_step]
        have hlen : v.cells.toList.length = v.cells.size := by simp
        rw [bldL_fill ps (i + 1) l _ hb (by rw [wrA_size, hs]; congr 1; omega)]
        rw [wrA_list _ _ _ (by rw [hlen]; exact hle)]
        have e1 : (i + 1) * size = i * size + v.cells.size := by rw [Nat.succ_mul, hv]
        rw [e1, List.take_append_of_le_length (by simp; omega), List.take_of_length_le (by simp; omega)]
        simp
    · cases h

theorem run_build {P : Program} {w : World} {t : TypeId} {ps : Array (Nat × Value)} {r : List Value} (h : bld P t ps.toList = some r) : (Instr.build t ps).run P w = .ok (.agg r.toArray) w := by
  unfold bld at h
  cases hz : (P.info? t).bind (·.zero) with
  | none => simp [hz] at h
  | some z =>
    cases hu : P.underlying t with
    | none => simp [hz, hu] at h
    | some d =>
      cases d <;> simp only [hz, hu] at h <;> try (cases h; done)
      case array len e =>
        simp only [Bool.cond_eq_ite, Bool.and_eq_true, beq_iff] at h
        split at h
        · rename_i hc
          obtain ⟨⟨hie, hl⟩, hsz⟩ := hc
          obtain ⟨ie, hie⟩ := Option.isSome_iff_exists.1 hie
          simp only [Instr.build, Sem.run_bind, run_zero hz, Result.andThen_ok, run_under hu, run_size hie]
          have hf := bldL_fill ps.toList 0 r z.cells h (by rw [hsz, Nat.zero_add, hl])
          simp only [Nat.zero_mul, List.take_zero, List.nil_append] at hf
          rw [hf]
          rfl
        · cases h
      rename_i fs
      simp only [Bool.cond_eq_ite, List.all_eq_true] at h
      split at h
      · rename_i hall
        have hmap : ∀ w : World, (fs.mapM fun f => (do pure (f.offset, ← sizeOf f.type) : Sem (Nat × Nat))).run P w = .ok (fs.toList.map fun f => (f.offset, P.cellsOf f.type)).toArray w := by
          intro w
          refine run_mapM _ _ _ fun f hf => ?_
          obtain ⟨i, hi⟩ := Option.isSome_iff_exists.1 (hall f hf)
          simp [run_size hi]
        simp only [Instr.build, Sem.run_bind, run_zero hz, Result.andThen_ok, run_under hu, hmap]
        rw [bldS_fill (fs := fs) ?_ ps.toList z.cells r h]
        · rfl
        · intro i f hf
          simp [hf]
      · cases h

end Go.Eng
