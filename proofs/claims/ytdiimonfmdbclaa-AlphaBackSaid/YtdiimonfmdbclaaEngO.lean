import Derived.Test.YtdiimonfmdbclaaEngI
import Derived.IntWalk
/-
  The engine: interface values, methods called through them, make of slices.
-/
namespace Go.Eng
open Go.RowKit

section
variable {E : Env} {C : Ctx} {fz : List Nat} {o : Oper} {st : St} {u : UW} {θ : Nat → Nat} {K : St → UW → Prop} {Q : Exit → Act → World → Prop} {a : Act} {wa : World}

theorem s_mki {t : TypeId} {x : Operand} (ho : o.op = .makeInterface t x) (hok : okOper C.n o = true) (hI : Inv C a wa st u θ)
    (h : bif plain (ev st.σ x) then (match pv E.P (Instr.makeInterface t (ev st.σ x)) with
      | some v => bif plain v then K (fin o st v) u else False
      | none => False) else False) : Snd E C fz o st θ K Q a wa := by
  have hx : okOp C.n x = true := opd hok (by simp [ho, Op.operands])
  obtain ⟨hp, h⟩ := bif_elim h
  cases hv : pv E.P (Instr.makeInterface t (ev st.σ x)) with
  | none => simp only [hv] at h
  | some v =>
    simp only [hv] at h
    obtain ⟨hpv, h⟩ := bif_elim h
    refine up_value (r := v) (wb := wa) ?_ (post_finP hok hI hpv h)
    simp only [execOp, ho, ev_eq hI hx hp, Sem.run_bind, pv_run hv wa]
    rfl

theorem run_askRoom (n : Nat) (P : Program) (w : World) : (askRoom n).run P w = .ok () w := by
  unfold askRoom; split <;> rfl

theorem run_asInt (k : IntKind) (i : Int) (P : Program) (w : World) : (asInt (.int k i)).run P w = .ok i w := by simp [asInt, asIntOf]

theorem zero_row (z : Array Value) (j : Nat) : (Array.range (j * z.size)).map (fun i => z[i % z.size]!) = (List.replicate j z.toList).flatten.toArray := by
  apply Array.toList_inj.1
  simp only [Array.toList_map, Array.toList_range]
  induction j with
  | zero => simp
  | succ j ih =>
    rw [Nat.succ_mul, List.range_add, List.map_append, ih, List.replicate_succ', List.flatten_append]
    congr 1
    simp only [List.map_map, List.flatten_cons, List.flatten_nil, List.append_nil]
    refine List.ext_getElem (by simp) fun i h1 h2 => ?_
    simp only [List.length_map, List.length_range] at h1
    simp [Nat.mul_add_mod_self_right, Nat.mod_eq_of_lt h1, h1]

theorem s_mks {t : TypeId} {x y : Operand} (ho : o.op = .makeSlice t x y) (hok : okOper C.n o = true) (hI : Inv C a wa st u θ)
    (h : match E.P.underlying t, ev st.σ x, ev st.σ y with
    | some (.slice e), .int _ i, .int _ j => (match (E.P.info? e).map (fun i => (i.size, i.bytes, i.zero.map fun z => z.cells.toList)) with
      | some (size, bytes, some zero) => bif Nat.beq zero.length size && !Nat.beq size 0 then
          0 ≤ i ∧ i ≤ j ∧ j < 4611686018427387904 ∧ j.toNat * bytes ≤ 140737488355328 ∧
          ∀ (b : Nat) (w' : World), Born u.toWorld w' b (.cells (List.replicate j.toNat zero).flatten.toArray e (0, 0)) → K (fin o st (.slice (some ⟨b, 0, none⟩) i.toNat j.toNat)) (u.born b w') else False
      | _ => False)
    | _, _, _ => False) : Snd E C fz o st θ K Q a wa := by
  have hx : okOp C.n x = true := opd hok (by simp [ho, Op.operands])
  have hy : okOp C.n y = true := opd hok (by simp [ho, Op.operands])
  split at h
  · rename_i e k i k' j hu ex ey
    cases hi : E.P.info? e with
    | none => simp [hi] at h
    | some inf =>
      simp only [hi, Option.map_some] at h
      cases hz : inf.zero with
      | none => simp [hz] at h
      | some z =>
        simp only [hz, Option.map_some] at h
        obtain ⟨hc, h1, h2, h3, h4, h⟩ := bif_elim h
        simp only [Bool.and_eq_true, beq_iff, Bool.not_eq_true'] at hc
        obtain ⟨hsz, hnz⟩ := hc
        have hzs : z.cells.size = inf.size := by simpa using hsz
        have hn0 : inf.size ≠ 0 := fun e0 => by rw [beq_iff.2 e0] at hnz; cases hnz
        obtain ⟨w', hb', hI'⟩ := hI.born (.cells (List.replicate j.toNat z.cells.toList).flatten.toArray e (0, 0))
        refine up_value (r := .slice (some ⟨wa.heap.size, 0, none⟩) i.toNat j.toNat) (wb := wa.alloc (.cells (List.replicate j.toNat z.cells.toList).flatten.toArray e (0, 0))) ?_ (post_finP hok hI' rfl (h _ _ hb'))
        have wi : IntKind.i64.wrap i = i := IntWalk.i64_in i (by omega)
        have wj : IntKind.i64.wrap j = j := IntWalk.i64_in j (by omega)
        have hlim : ¬ ((inf.bytes : Int) * j > 2 ^ 48) := by
          have : ((j.toNat * inf.bytes : Nat) : Int) ≤ 140737488355328 := Int.ofNat_le.2 h4
          have e1 : ((j.toNat : Nat) : Int) = j := Int.toNat_of_nonneg (by omega)
          rw [Int.natCast_mul, e1, Int.mul_comm] at this
          omega
        have hcell : E.P.cellsOf e = inf.size := by simp [Program.cellsOf, hi]
        have hzr := zero_row z.cells j.toNat
        rw [hzs] at hzr
        have hcond : ((decide (j < 0) || decide ((inf.bytes : Int) * j > 2 ^ 48)) || decide (i < 0) || decide (i > j)) = false := by
          simp only [decide_eq_false (show ¬ j < 0 by omega), decide_eq_false hlim, decide_eq_false (show ¬ i < 0 by omega), decide_eq_false (show ¬ i > j by omega), Bool.or_false]
        have hzz : (E.P.info? e).bind (·.zero) = some z := by simp [hi, hz]
        simp only [execOp, ho, ev_val hI hx ex rfl, ev_val hI hy ey rfl, Sem.run_bind, Instr.makeSlice, run_under hu, Result.andThen_ok, run_asInt, run_info hi, wi, wj]
        rw [if_neg (by rw [hcond]; simp)]
        by_cases hn : j.toNat * inf.size = 0
        · have hj : j.toNat = 0 := (Nat.mul_eq_zero.1 hn).resolve_right hn0
          simp [run_size hi, hcell, hj, newRow]
          congr 2; apply Array.ext'; simp
        · simp [run_size hi, hcell, hn, run_zero hzz, newRow, hzr, hzs]
  · exact h.elim

end
end Go.Eng
