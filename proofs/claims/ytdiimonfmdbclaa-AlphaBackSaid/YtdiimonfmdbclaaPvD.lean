import Derived.Test.YtdiimonfmdbclaaPvC
import Derived.Test.YtdiimonfmdbclaaEngV
/-
  V is sound: operations that touch no memory.
-/
namespace Go.Eng
open Go.RowKit
set_option linter.unusedVariables false

theorem cBin_mono {P : Program} {op : BinOp} {t : TypeId} {x y : Value} {K K' : Value → Prop} (h : cBin P op t x y K) (hk : ∀ v, plain v = true → one v = true → K v → K' v) : cBin P op t x y K' := by
  unfold cBin at h ⊢
  split at h
  · try simp only
    obtain ⟨hc, h⟩ := bif_elim h
    rw [hc]
    try simp only [cond_true]
    unfold intBin at h ⊢
    split at h <;> (try simp only) <;> first | exact hk _ rfl rfl h | exact ⟨h.1, hk _ rfl rfl h.2⟩ | exact h.elim
  · try simp only
    unfold strBin at h ⊢
    split at h <;> (try simp only) <;> first | exact hk _ rfl rfl h | exact ⟨h.1, hk _ rfl rfl h.2⟩ | exact h.elim
  · try simp only
    split at h
    · rename_i hu; (try rw [hu]); try simp only
      split at h <;> (try simp only) <;> first | exact hk _ rfl rfl h | exact h.elim
    · exact h.elim
  · try simp only
    split at h
    · exact h.elim
    · rename_i hu; (try rw [hu]); try simp only
      obtain ⟨hc, h⟩ := bif_elim h
      rw [hc]; simp only [cond_true]
      split at h
      · rename_i hu; (try rw [hu]); try simp only
        split at h <;> (try simp only) <;> first | exact hk _ rfl rfl h | exact h.elim
      · exact h.elim
  · try simp only
    split at h
    · rename_i hu; (try rw [hu]); try simp only
      split at h <;> (try simp only) <;> first | exact hk _ rfl rfl h | exact h.elim
    · exact h.elim
  · try simp only
    split at h
    · rename_i hu; (try rw [hu]); try simp only
      split at h <;> (try simp only) <;> first | exact hk _ rfl rfl h | exact h.elim
    · exact h.elim
  · try simp only
    split at h
    · rename_i hu; (try rw [hu]); try simp only
      split at h <;> (try simp only) <;> first | exact hk _ rfl rfl h | exact h.elim
    · exact h.elim
  · exact h.elim

theorem cBin_fn {P : Program} {op : BinOp} {t : TypeId} {f : Fn} {a b a' b' : Array Value} {K : Value → Prop} (h : cBin P op t (.func f a b) .nilFunc K) : cBin P op t (.func f a' b') .nilFunc K := h

theorem unraw_rep {Z : Fz} : ∀ {ps : List PV} {vs ws : List Value}, unraw ps = some vs → RepC Z ps ws → ws = vs
  | [], vs, ws, h, hr => by simp only [unraw, Option.some.injEq] at h; subst h; exact hr.inv0
  | .raw v :: ps, vs, ws, h, hr => by
    simp only [unraw] at h
    cases hu : unraw ps with
    | none => rw [hu] at h; cases h
    | some us =>
      rw [hu] at h
      simp only [Option.some.injEq] at h
      subst h
      obtain ⟨w, ws', rfl, h1, h2, h3⟩ := hr.inv
      rw [h2.ofRaw.1, unraw_rep hu h3]
  | .list .. :: _, _, _, h, _ => by simp [unraw] at h
  | .fptr .. :: _, _, _, h, _ => by simp [unraw] at h
  | .fn .. :: _, _, _, h, _ => by simp [unraw] at h
  | .agg .. :: _, _, _, h, _ => by simp [unraw] at h
  | .tup .. :: _, _, _, h, _ => by simp [unraw] at h
  | .iface .. :: _, _, _, h, _ => by simp [unraw] at h
  | .box .. :: _, _, _, h, _ => by simp [unraw] at h
  | .poison :: _, _, _, h, _ => by simp [unraw] at h

theorem cBin_rep {Z : Fz} {P : Program} {op : BinOp} {t : TypeId} {x y : PV} {a b : Value} {KP : PV → Prop} {K : Value → Prop} (hx : Rep Z x a) (hy : Rep Z y b) (h : cBinP P op t x y KP) (hk : ∀ p v, Rep Z p v → KP p → K v) : cBin P op t a b K := by
  unfold cBinP at h
  split at h
  · rw [hx.ofRaw.1, hy.ofRaw.1]
    exact cBin_mono h fun v h1 h2 hv => hk _ v (.raw v h1 h2) hv
  · rename_i as bs
    cases h1 : unraw as with
    | none => rw [h1] at h; exact h.elim
    | some us =>
      cases h2 : unraw bs with
      | none => rw [h1, h2] at h; exact h.elim
      | some ws =>
        rw [h1, h2] at h
        obtain ⟨vs, rfl, hc⟩ := hx.ofAgg
        obtain ⟨vs', rfl, hc'⟩ := hy.ofAgg
        rw [unraw_rep h1 hc, unraw_rep h2 hc']
        exact cBin_mono h fun v h1 h2 hv => hk _ v (.raw v h1 h2) hv
  · obtain ⟨fv, cv, rfl, _⟩ := hx.ofFn
    rw [hy.ofRaw.1]
    exact cBin_mono (cBin_fn h) fun v h1 h2 hv => hk _ v (.raw v h1 h2) hv
  · exact h.elim

theorem pv_makeInterface {P : Program} {t : TypeId} {v : Value} (h : (match P.underlying t with | some (.interface _) => false | some _ => true | none => false) = true) : pv P (Instr.makeInterface t v) = some (.iface t v) := by
  unfold Instr.makeInterface underlying program
  simp only [bind, Sem.bind, pv]
  cases hu : P.underlying t with
  | none => rw [hu] at h; cases h
  | some d =>
    rw [hu] at h
    cases d <;> first | (simp at h; done) | rfl

theorem cells_len {Z : Fz} {p : PV} {v : Value} (h : Rep Z p v) (hk : p.ok = true) : v.cells.size = p.cells.length := by
  have := (h.cells hk).1
  simpa using this

theorem bldS_rep {Z : Fz} {P : Program} {fs : Array Field} : ∀ {ps : List (Nat × PV)} {vs : List (Nat × Value)} {cs : List PV} {ds : List Value} {r : List PV}, ps.length = vs.length →
    (∀ (i : Nat) x y, ps[i]? = some x → vs[i]? = some y → x.1 = y.1 ∧ x.2.ok = true ∧ Rep Z x.2 y.2) → RepC Z cs ds → bldSP P fs ps cs = some r → ∃ w, bldS P fs vs ds = some w ∧ RepC Z r w
  | [], [], cs, ds, r, _, _, hc, h => by simp only [bldSP, Option.some.injEq] at h; subst h; exact ⟨ds, rfl, hc⟩
  | [], _ :: _, _, _, _, hl, _, _, _ => by simp at hl
  | _ :: _, [], _, _, _, hl, _, _, _ => by simp at hl
  | (i, p) :: ps, (i', v) :: vs, cs, ds, r, hl, hp, hc, h => by
    obtain ⟨e1, e2, e3⟩ := hp 0 _ _ rfl rfl
    simp only at e1 e2 e3
    subst e1
    simp only [bldSP] at h
    simp only [bldS]
    split at h
    · rename_i f hf
      have hlen := cells_len e3 e2
      cases hb : (Nat.beq p.cells.length (P.cellsOf f.type) && Nat.ble (f.offset + p.cells.length) cs.length && (P.info? f.type).isSome) with
      | false => rw [hb] at h; cases h
      | true =>
        rw [hb] at h
        simp only [cond_true] at h
        have hb' : (Nat.beq v.cells.size (P.cellsOf f.type) && Nat.ble (f.offset + v.cells.size) ds.length && (P.info? f.type).isSome) = true := by rw [hlen, hc.1]; exact hb
        rw [hf]
        simp only [hb', cond_true]
        refine bldS_rep (by simpa using hl) (fun i x y a b => hp (i + 1) x y (by simpa using a) (by simpa using b)) ?_ h
        rw [hlen]
        exact ((hc.take _).append (e3.cells e2)).append (hc.drop _)
    · cases h

theorem bif_some {α : Type} {b : Bool} {x : Option α} {y : α} (h : (bif b then x else none) = some y) : b = true ∧ x = some y := by
  cases b with
  | false => cases h
  | true => exact ⟨rfl, h⟩

theorem bldL_rep {Z : Fz} {size : Nat} : ∀ {i : Nat} {ps : List (Nat × PV)} {vs : List (Nat × Value)} {rows : List (List PV)}, ps.length = vs.length →
    (∀ (i : Nat) x y, ps[i]? = some x → vs[i]? = some y → x.1 = y.1 ∧ x.2.ok = true ∧ Rep Z x.2 y.2) → bldLP size i ps = some rows → ∃ w, bldL size i vs = some w ∧ RepC Z rows.flatten w ∧ rows.length = ps.length ∧ ∀ r ∈ rows, r.length = size
  | i, [], [], rows, _, _, h => by simp only [bldLP, Option.some.injEq] at h; subst h; exact ⟨[], rfl, RepC.nil Z, rfl, by simp⟩
  | _, [], _ :: _, _, hl, _, _ => by simp at hl
  | _, _ :: _, [], _, hl, _, _ => by simp at hl
  | i, (j, pp) :: ps, (j', v) :: vs, rows, hl, hp, h => by
    obtain ⟨e1, e2, e3⟩ := hp 0 _ _ rfl rfl
    simp only at e1 e2 e3
    subst e1
    simp only [bldLP] at h
    simp only [bldL]
    have hlen := cells_len e3 e2
    cases hb : (Nat.beq i j && Nat.beq pp.cells.length size) with
    | false => rw [hb] at h; cases h
    | true =>
      rw [hb] at h
      have hb' : (Nat.beq i j && Nat.beq v.cells.size size) = true := by rw [hlen]; exact hb
      rw [hb']
      simp only [cond_true] at h ⊢
      cases hrs : bldLP size (i + 1) ps with
      | none => rw [hrs] at h; cases h
      | some rs =>
        rw [hrs] at h
        simp only [Option.some.injEq] at h
        subst h
        obtain ⟨w, hw, hrep, hl2, hr2⟩ := bldL_rep (vs := vs) (by simpa using hl) (fun i x y a b => hp (i + 1) x y (by simpa using a) (by simpa using b)) hrs
        rw [hw]
        refine ⟨_, rfl, (e3.cells e2).wk.append hrep, by simp [hl2], fun r hr => ?_⟩
        simp only [List.mem_cons] at hr
        rcases hr with rfl | hr
        · simp only [List.length_map]
          simp only [Bool.and_eq_true, beq_iff] at hb; exact hb.2
        · exact hr2 r hr

theorem bld_rep {Z : Fz} {P : Program} {t : TypeId} {ps : List (Nat × PV)} {vs : List (Nat × Value)} {r : List PV} (hl : ps.length = vs.length)
    (hp : ∀ (i : Nat) x y, ps[i]? = some x → vs[i]? = some y → x.1 = y.1 ∧ x.2.ok = true ∧ Rep Z x.2 y.2) (h : bldP P t ps = some r) : ∃ w, bld P t vs = some w ∧ RepC Z r w := by
  unfold bldP at h
  unfold bld
  split at h
  · rename_i z fs hz hu
    rw [hz, hu]
    simp only
    cases hb : ((zeroP P t z).ok && aggT P t && fs.toList.all fun f => (P.info? f.type).isSome) with
    | false => rw [hb] at h; cases h
    | true =>
      rw [hb] at h
      simp only [cond_true] at h
      have hb' : (fs.toList.all fun f => (P.info? f.type).isSome) = true := by
        simp only [Bool.and_eq_true] at hb; exact hb.2
      rw [hb']
      simp only [cond_true]
      split at h
      · rename_i cs hcs
        have hz := (ofV_rep Z z).nrmT (P := P) (t := t)
        have hz' : Rep Z (.agg cs) z := by rw [← hcs]; exact hz
        obtain ⟨ds, rfl, hc⟩ := hz'.ofAgg
        refine bldS_rep (by simpa using hl) (fun i x y a b => ?_) hc h
        rw [List.getElem?_map] at a
        cases hx : ps[i]? with
        | none => simp [hx] at a
        | some x0 =>
          simp only [hx, Option.map_some, Option.some.injEq] at a
          obtain ⟨e1, e2, e3⟩ := hp i x0 y hx b
          subst a
          refine ⟨e1, ?_, ?_⟩
          · simp only; split
            · rw [nrmT_ok]; exact e2
            · exact e2
          · simp only; split
            · exact e3.nrmT
            · exact e3
      · cases h
  · rename_i z len e hz hu
    rw [hz, hu]
    simp only
    obtain ⟨hb, h⟩ := bif_some h
    simp only [Bool.and_eq_true] at hb
    rw [← hl, hb.1.1, hb.1.2, hb.2]
    simp only [Bool.and_true, cond_true]
    split at h
    · rename_i rows hrows
      simp only [Option.some.injEq] at h
      subst h
      obtain ⟨w, hw, hrep, _⟩ := bldL_rep (Z := Z) (vs := vs) (by simpa using hl) (fun i x y a b => by
        rw [List.getElem?_map] at a
        cases hx : ps[i]? with
        | none => simp [hx] at a
        | some x0 =>
          simp only [hx, Option.map_some, Option.some.injEq] at a
          obtain ⟨e1, e2, e3⟩ := hp i x0 y hx b
          subst a
          exact ⟨e1, by rw [nrmT_ok]; exact e2, e3.nrmT⟩) hrows
      exact ⟨w, hw, hrep⟩
    · cases h
  · cases h

theorem elt_rep {Z : Fz} {P : Program} {e : TypeId} {off : Nat} {cs : List PV} {vs : List Value} {p : PV} (hc : RepC Z cs vs) (h : eltP P e off cs = some p) : ∃ v, eltV P e off vs = some v ∧ p.ok = true ∧ Rep Z p v := by
  unfold eltP at h
  unfold eltV
  obtain ⟨hb, h⟩ := bif_some h
  rw [hc.1, hb]
  simp only [cond_true]
  cases ha : aggT P e with
  | true =>
    rw [ha] at h
    simp only [cond_true, Option.some.injEq] at h ⊢
    subst h
    exact ⟨_, rfl, rfl, ((hc.drop _).take _).toAgg⟩
  | false =>
    rw [ha] at h
    simp only [cond_false] at h ⊢
    obtain ⟨v, hv, hk, hr⟩ := hc.get h
    exact ⟨v, hv, PV.ok_cell hk, hr⟩

theorem fld_rep {Z : Fz} {P : Program} {t : TypeId} {f : Nat} {cs : List PV} {vs : List Value} {p : PV} (hc : RepC Z cs vs) (h : fldP P t f cs = some p) : ∃ v, fldV P t f vs = some v ∧ p.ok = true ∧ Rep Z p v := by
  unfold fldP at h
  unfold fldV
  split at h
  · rename_i fs hu
    rw [hu]
    simp only
    split at h
    · rename_i x hx
      rw [hx]
      simp only
      rw [hc.1]
      cases hb : ((P.underlying x.type).isSome && Nat.ble (x.offset + P.cellsOf x.type) cs.length) with
      | false => rw [hb] at h; cases h
      | true =>
        rw [hb] at h
        simp only [cond_true] at h ⊢
        cases ha : aggT P x.type with
        | true =>
          rw [ha] at h
          simp only [cond_true, Option.some.injEq] at h ⊢
          subst h
          exact ⟨_, rfl, rfl, ((hc.drop _).take _).toAgg⟩
        | false =>
          rw [ha] at h
          simp only [cond_false] at h ⊢
          obtain ⟨v, hv, hk, hr⟩ := hc.get h
          exact ⟨v, hv, PV.ok_cell hk, hr⟩
    · cases h
  · cases h

theorem optInt_rep {Z : Fz} {p : PSt} {s : St} (hr : Rel2 Z p s) {x : Option Operand} {d i : Int} (h : optIntP (evP p.σ) x d = some i) : optInt (ev s.σ) x d = some i := by
  unfold optIntP at h
  unfold optInt
  split at h
  · exact h
  · rename_i x
    split at h
    · rename_i k j he
      have := hr.ev x
      rw [he] at this
      show (match ev s.σ x with | .int _ i => some i | _ => none) = some i
      rw [this.ofRaw.1]
      exact h
    · cases h

theorem ints_rep {Z : Fz} {p : PSt} {s : St} (hr : Rel2 Z p s) : ∀ {xs : List Operand} {r : IntKind × List Int}, intsP (evP p.σ) xs = some r → intsOf (ev s.σ) xs = some r
  | [], _, h => by simp [intsP] at h
  | [x], r, h => by
    simp only [intsP] at h
    split at h
    · rename_i k i he
      have := hr.ev x
      rw [he] at this
      simp only [intsOf, this.ofRaw.1]; exact h
    · cases h
  | x :: y :: l, r, h => by
    simp only [intsP] at h
    split at h
    · rename_i k i k' is he h2
      have := hr.ev x
      rw [he] at this
      have ih := ints_rep (xs := y :: l) hr h2
      simp only [intsOf, this.ofRaw.1, ih]; exact h
    · cases h

theorem slice_rep {Z : Fz} {sz size : Nat} {fl fl' : Fl} {rows : List (List PV)} {a : Option Addr} {n c l h m : Nat} (hr : Rep Z (.list sz fl rows) (.slice a n c)) (hsz : okSz size sz rows = true) (h1 : l ≤ h) (h2 : h ≤ rows.length) (h3 : h ≤ m) (hf : FlOk fl' (slA a l m size) (h - l) (m - l)) :
    Rep Z (.list size fl' ((rows.take h).drop l)) (.slice (slA a l m size) (h - l) (m - l)) := by
  cases hr with
  | list _ _ _ _ _ _ b o C g hn hc hs hrr ha hg hk hp hf0 =>
    have hsp : m - l = 0 ∨ noSpot (slA a l m size) := by
      unfold slA
      split
      · left; omega
      · right
        intro x hx
        cases a with
        | none => cases hx
        | some y => simp only [Option.map_some, Option.some.injEq] at hx; subst hx; rfl
    have hlen : ((rows.take h).drop l).length = h - l := by simp; omega
    by_cases h0 : h - l = 0
    · have hnil : (rows.take h).drop l = [] := List.eq_nil_of_length_eq_zero (by omega)
      rw [hnil]
      refine .list size fl' [] _ (h - l) _ 0 0 [] (fun _ _ => undef) (by simp; omega) (by omega) hsp (by simp) (fun h => absurd h0 h) (fun i j hi => by omega) (by simp) (by simp) hf
    · have hn0 : n ≠ 0 := by omega
      have hsz' : sz = size := by
        unfold okSz at hsz
        cases hb : Nat.beq sz size with
        | true => exact beq_iff.1 hb
        | false =>
          rw [hb] at hsz
          simp only [cond_false] at hsz
          split at hsz
          · simp at h2; omega
          · cases hsz
      subst hsz'
      obtain ⟨ea, ez⟩ := ha hn0
      subst ea
      have hne : m ≠ l := by omega
      refine .list sz fl' _ _ (h - l) _ b (o + l * sz) C (fun i j => g (i + l) j) hlen (by omega) hsp ?_ ?_ ?_ ?_ ?_ hf
      · intro r hr; exact hrr r (List.mem_of_mem_take (List.mem_of_mem_drop hr))
      · intro _
        refine ⟨?_, ez⟩
        unfold slA; rw [if_neg hne]; rfl
      · intro i j hi hj
        have := hg (i + l) j (by omega) hj
        rw [← this]
        congr 1
        rw [Nat.add_mul]; omega
      · intro i j row p hi hj
        rw [List.getElem?_drop, List.getElem?_take] at hi
        split at hi
        · exact hk (l + i) j row p hi hj
        · cases hi
      · intro i j row p hi hj
        rw [List.getElem?_drop, List.getElem?_take] at hi
        split at hi
        · have := hp (l + i) j row p hi hj
          rw [Nat.add_comm] at this; exact this
        · cases hi

theorem Rep.ofFptr {Z : Fz} {row : List PV} {o : Nat} {w : Value} (h : Rep Z (.fptr row o) w) : ∃ (b off : Nat) (C : List Value) (g : Nat → Value), w = .pointer (some ⟨b, off + o, none⟩) ∧ Z b = some C ∧ (∀ j : Nat, j < row.length → C[off + j]? = some (g j)) ∧ (∀ (j : Nat) p, row[j]? = some p → p.cell = true) ∧ ∀ (j : Nat) p, row[j]? = some p → Rep Z p (g j) := by
  cases h with
  | fptr _ _ b off C g hz hg hk hp => exact ⟨b, off, C, g, rfl, hz, hg, hk, hp⟩

theorem allOk_ev {Z : Fz} {p : PSt} {s : St} (hr : Rel2 Z p s) {l : List Operand} (h : l.all (fun x => (evP p.σ x).ok) = true) : Reps Z (l.map (evP p.σ)) (l.map (ev s.σ)) := by
  induction l with
  | nil => exact Reps.nil Z
  | cons x l ih =>
    simp only [List.all_cons, Bool.and_eq_true] at h
    exact Reps.cons h.1 (hr.ev x) (ih h.2)

theorem all_plain_ev {Z : Fz} {p : PSt} {s : St} (hr : Rel2 Z p s) {l : List Operand} (h : l.all (fun x => (evP p.σ x).ok) = true) : l.all (fun x => plain (ev s.σ x)) = true := by
  rw [List.all_eq_true] at h ⊢
  exact fun x hx => (hr.ev x).plain (h x hx)

def isLoadO (o : Oper) : Bool := match o.op with | .load .. => true | _ => false

theorem V1_pure {E : EnvP} {q : Bool} {fz : List Nat} {o : Oper} {p : PSt} {s : St} {μ : Mem} {u : UW} {KP : PSt → Mem → Prop} {K : St → UW → Prop} {Z : Fz} (hr : Rel2 Z p s) (htk : takeable o = true) (hl : isLoadO o = false)
    (hK : ∀ p' s', Rel2 Z p' s' → KP p' μ → K s' u) (h : V1 E q fz o p μ KP) : W1 E.er fz o s u K := by
  unfold takeable at htk
  unfold isLoadO at hl
  unfold V1 at h
  unfold W1
  simp only at h ⊢
  cases hop : o.op <;> simp only [hop] at h htk hl ⊢ <;> first | (cases htk; done) | (cases hl; done) | skip
  case move x => exact hK _ _ (hr.fin o (hr.ev x).nrmT) h
  case assign x => exact hK _ _ (hr.fin o (hr.ev x).nrmT) h
  case pick c a b =>
    split at h
    · rename_i t he
      have hc := hr.ev c
      rw [he] at hc
      rw [hc.ofRaw.1]
      cases t
      · exact hK _ _ (hr.fin o (hr.ev b).nrmT) h
      · exact hK _ _ (hr.fin o (hr.ev a).nrmT) h
    · exact h.elim
  case build t ps =>
    obtain ⟨hc, h⟩ := bif_elim h
    have hpl : (ps.toList.all fun p => plain (ev s.σ p.2)) = true := by
      rw [List.all_eq_true] at hc ⊢
      exact fun x hx => (hr.ev x.2).plain (hc x hx)
    rw [hpl]
    simp only [cond_true]
    split at h
    · rename_i vs hb
      obtain ⟨w, hw, hrep⟩ := bld_rep (Z := Z) (vs := ps.toList.map fun p => (p.1, ev s.σ p.2)) (by simp) (fun i x y a b => by
        rw [List.getElem?_map] at a b
        cases hi : ps.toList[i]? with
        | none => rw [hi] at a; cases a
        | some z =>
          rw [hi] at a b
          simp only [Option.map_some, Option.some.injEq] at a b
          subst a; subst b
          exact ⟨rfl, List.all_eq_true.1 hc z (List.mem_of_getElem? hi), hr.ev z.2⟩) hb
      have hw' : bld E.er.P t (ps.toList.map fun p => (p.1, ev s.σ p.2)) = some w := hw
      rw [hw']
      exact hK _ _ (hr.fin o hrep.toAgg) h
    · exact h.elim
  case nilCheck x =>
    have hx := hr.ev x
    split at h
    · rename_i k off he
      rw [he] at hx; rw [hx.ofBox]
      exact hK _ _ (hr.fin o (.box k off)) h
    · rename_i row off he
      rw [he] at hx
      obtain ⟨b, of, C, g, hv, hz, hg, hk, hp⟩ := hx.ofFptr
      rw [hv]
      exact hK _ _ (hr.fin o (.fptr row off b of C g hz hg hk hp)) h
    · rename_i a he
      rw [he] at hx; rw [hx.ofRaw.1]
      cases a with
      | none => exact h.elim
      | some a => exact hK _ _ (hr.fin o (.raw _ rfl rfl)) h
    · rename_i f a b he
      rw [he] at hx
      obtain ⟨fv, cv, hv, h1, h2⟩ := hx.ofFn
      rw [hv]
      cases f with
      | method n => exact h.elim
      | _ => exact hK _ _ (hr.fin o (Reps.toFn h1 h2)) h
    · exact h.elim
  case binOp op t x y ft => exact cBin_rep (hr.ev x) (hr.ev y) h fun pp v hv hk => hK _ _ (hr.fin o hv) hk
  case unOp op t x =>
    have hx := hr.ev x
    split at h
    · rename_i b he
      rw [he] at hx; rw [hx.ofRaw.1]
      exact hK _ _ (hr.fin o (.raw _ rfl rfl)) h
    · rename_i k n he
      rw [he] at hx; rw [hx.ofRaw.1]
      exact hK _ _ (hr.fin o (.raw _ rfl rfl)) h
    · exact h.elim
  case convert src dst x =>
    have hx := hr.ev x
    split at h
    · rename_i v he
      rw [he] at hx
      obtain ⟨e1, e2, e3⟩ := hx.ofRaw
      rw [e1, e2]
      simp only [cond_true]
      split at h
      · rename_i v' hv
        have hv' : pv E.er.P (convert src dst v) = some v' := hv
        rw [hv']
        obtain ⟨hc, h⟩ := bif_elim h
        simp only [Bool.and_eq_true] at hc
        simp only [hc.1, cond_true]
        exact hK _ _ (hr.fin o (.raw _ hc.1 hc.2)) h
      · exact h.elim
    · exact h.elim
  case makeInterface t x =>
    have hx := hr.ev x
    obtain ⟨hc, h⟩ := bif_elim h
    simp only [Bool.and_eq_true] at hc
    rw [hx.plain hc.1]
    simp only [cond_true]
    have hm : pv E.er.P (Instr.makeInterface t (ev s.σ x)) = some (.iface t (ev s.σ x)) := pv_makeInterface hc.2
    rw [hm]
    simp only [plain, cond_true]
    exact hK _ _ (hr.fin o (.iface t _ _ hc.1 hx)) h
  case makeFunc fn first caps =>
    obtain ⟨hc, h⟩ := bif_elim h
    simp only [Bool.and_eq_true] at hc
    rw [all_plain_ev hr hc.1, all_plain_ev hr hc.2]
    simp only [Bool.and_self, cond_true]
    have wkR : ∀ {l : List Operand}, l.all (fun x => (evP p.σ x).ok) = true → Reps Z (l.map fun x => wk (evP p.σ x)) (l.map (ev s.σ)) := by
      intro l hl
      induction l with
      | nil => exact Reps.nil Z
      | cons x l ih =>
        simp only [List.all_cons, Bool.and_eq_true] at hl
        exact Reps.cons (by rw [wk_ok]; exact hl.1) (hr.ev x).wk (ih hl.2)
    exact hK _ _ (hr.fin o (Reps.toFn (wkR hc.1) (wkR hc.2))) h
  case slice t x lo hi mx =>
    have hx := hr.ev x
    split at h
    · rename_i e sz fl rows hu he
      have hu' : E.er.P.underlying t = some (.slice e) := hu
      rw [he] at hx
      obtain ⟨a, n, c, hv, hn, hc, hs, hf⟩ := hx.ofList
      rw [hu', hv]
      simp only
      rw [hv] at hx
      split at h
      · rename_i l hh m e1 e2 e3
        have e1' := optInt_rep hr e1
        rw [hn] at e2
        have e2' := optInt_rep hr e2
        cases hb : ((mx.isSome && hi.isNone) || (E.P.info? e).isNone || !okSz (E.P.cellsOf e) sz rows) with
        | true => rw [hb] at h; exact h.elim
        | false =>
          rw [hb] at h
          simp only [cond_false] at h
          simp only [Bool.or_eq_false_iff, Bool.not_eq_false'] at hb
          have hb1 : ((mx.isSome && hi.isNone) || (E.er.P.info? e).isNone) = false := by
            rw [Bool.or_eq_false_iff]; exact hb.1
          cases mx with
          | none =>
            simp only at h
            obtain ⟨g1, g2, g3, h⟩ := h
            have e3' : optInt (ev s.σ) none (c : Int) = some (c : Int) := rfl
            rw [e1', e2', e3']
            simp only [hb1, cond_false]
            refine ⟨hs.elim (fun h0 => .inl (by omega)) .inr, g1, g2, by omega, by omega, hK _ _ (hr.fin o ?_) h⟩
            exact slice_rep hx hb.2 (by omega) (by omega) (by omega) trivial
          | some y =>
            simp only at h
            obtain ⟨g1, g2, g3, g4, h⟩ := h
            have e3' : optInt (ev s.σ) (some y) (c : Int) = some m := by
              have : optIntP (evP p.σ) (some y) (c : Int) = some m := by
                unfold optIntP at e3 ⊢; exact e3
              exact optInt_rep hr this
            rw [e1', e2', e3']
            simp only [hb1, cond_false]
            subst g4
            refine ⟨hs.elim (fun h0 => .inl (by omega)) .inr, g1, g2, by omega, by omega, hK _ _ (hr.fin o ?_) h⟩
            exact slice_rep hx hb.2 (by omega) (by omega) (by omega) rfl
      · exact h.elim
    · rename_i e a len cap hu he
      have hu' : E.er.P.underlying t = some (.slice e) := hu
      rw [he] at hx
      rw [hu', hx.ofRaw.1]
      simp only
      split at h
      · rename_i l hh m e1 e2 e3
        rw [optInt_rep hr e1, optInt_rep hr e2, optInt_rep hr e3]
        simp only
        cases hb : ((mx.isSome && hi.isNone) || (E.P.info? e).isNone) with
        | true => rw [hb] at h; exact h.elim
        | false =>
          rw [hb] at h
          have hb' : ((mx.isSome && hi.isNone) || (E.er.P.info? e).isNone) = false := hb
          rw [hb']
          simp only [cond_false] at h ⊢
          obtain ⟨g1, g2, g3, g4, g5, h⟩ := h
          exact ⟨.inr g1, g2, g3, g4, g5, hK _ _ (hr.fin o (.raw _ rfl rfl)) h⟩
      · exact h.elim
    · rename_i st hu he
      have hu' : E.er.P.underlying t = some .string := hu
      rw [he] at hx
      rw [hu', hx.ofRaw.1]
      simp only
      cases mx with
      | some _ => exact h.elim
      | none =>
        simp only at h ⊢
        split at h
        · rename_i l hh e1 e2
          rw [optInt_rep hr e1, optInt_rep hr e2]
          obtain ⟨g1, g2, g3, h⟩ := h
          exact ⟨g1, g2, g3, hK _ _ (hr.fin o (.raw _ rfl rfl)) h⟩
        · exact h.elim
    · exact h.elim
  case fieldAddr t x f =>
    have hx := hr.ev x
    cases hd : fOff E.P t f with
    | none => rw [hd] at h; exact h.elim
    | some d =>
      rw [hd] at h
      have hd' : fOff E.er.P t f = some d := hd
      rw [hd']
      simp only at h ⊢
      split at h
      · rename_i k off he
        rw [he] at hx; rw [hx.ofBox]
        exact hK _ _ (hr.fin o (.box k (off + d))) h
      · rename_i row off he
        rw [he] at hx
        obtain ⟨b, of, C, g, hv, hz, hg, hk, hp⟩ := hx.ofFptr
        rw [hv]
        refine hK _ _ (hr.fin o ?_) h
        have := Rep.fptr (Z := Z) row (off + d) b of C g hz hg hk hp
        rw [← Nat.add_assoc] at this
        exact this
      · unfold withPtrP at h
        split at h
        · rename_i b off he
          rw [he] at hx
          rw [hx.ofRaw.1]
          exact hK _ _ (hr.fin o (.raw _ rfl rfl)) h
        · exact h.elim
  case field t x f =>
    have hx := hr.ev x
    split at h
    · rename_i cs he
      rw [he] at hx
      obtain ⟨vs, hv, hc⟩ := hx.ofAgg
      rw [hv]
      simp only
      split at h
      · rename_i pp hf
        obtain ⟨v, hv2, hk, hrp⟩ := fld_rep hc hf
        have hv2' : fldV E.er.P t f vs = some v := hv2
        rw [hv2']
        simp only [hrp.plain hk, cond_true]
        exact hK _ _ (hr.fin o hrp) h
      · exact h.elim
    · exact h.elim
  case indexAddr t x i =>
    have hx := hr.ev x
    have hi := hr.ev i
    split at h
    · rename_i e sz fl rows k j hu he hj
      have hu' : E.er.P.underlying t = some (.slice e) := hu
      rw [he] at hx
      rw [hj] at hi
      obtain ⟨hc, g1, row, hrow, h⟩ := bif_elim h
      simp only [Bool.and_eq_true, beq_iff] at hc
      have hc1 : (E.er.P.info? e).isSome = true := hc.1
      cases hvx : ev s.σ x with
      | slice a n c =>
        rw [hvx] at hx
        rw [hu', hi.ofRaw.1]
        simp only [hc1, cond_true]
        cases hx with
        | list _ _ _ _ _ _ b of C g hn hcc hs hrr ha hg hk hp hf =>
          have hlt : j.toNat < n := by rw [← hn]; exact (List.getElem?_eq_some_iff.1 hrow).1
          obtain ⟨ea, ez⟩ := ha (by omega)
          subst ea
          refine ⟨g1, by omega, hK _ _ (hr.fin o ?_) h⟩
          have hsz : sz = E.er.P.cellsOf e := hc.2
          have hrl : row.length = sz := hrr row (List.mem_of_getElem? hrow)
          have := Rep.fptr (Z := Z) row 0 b (of + j.toNat * sz) C (fun jj => g j.toNat jj) ez (fun jj hjj => hg _ _ hlt (by omega)) (fun jj pp hpp => hk _ _ _ _ hrow hpp) (fun jj pp hpp => hp _ _ _ _ hrow hpp)
          rw [← hsz]
          exact this
      | _ => rw [hvx] at hx; cases hx
    · rename_i e a len cap k j hu he hj
      have hu' : E.er.P.underlying t = some (.slice e) := hu
      rw [he] at hx
      rw [hj] at hi
      obtain ⟨hc, h⟩ := bif_elim h
      have hc1 : (E.er.P.info? e).isSome = true := hc
      rw [hu', hx.ofRaw.1, hi.ofRaw.1]
      simp only [hc1, cond_true]
      obtain ⟨b, off, rfl, h1, h2, h⟩ := withSl_elim h
      exact ⟨h1, h2, hK _ _ (hr.fin o (.raw _ rfl rfl)) h⟩
    · rename_i len e k off k' j hu he hj
      have hu' : E.er.P.underlying t = some (.array len e) := hu
      rw [he] at hx
      rw [hj] at hi
      obtain ⟨hc, h⟩ := bif_elim h
      have hc1 : (decide (0 ≤ j) && decide (j < len) && (E.er.P.info? e).isSome) = true := hc
      rw [hu', hx.ofBox, hi.ofRaw.1]
      simp only [hc1, cond_true]
      exact hK _ _ (hr.fin o (.box k _)) h
    · exact h.elim
  case index t x i =>
    have hx := hr.ev x
    have hi := hr.ev i
    split at h
    · rename_i st k j hu he hj
      have hu' : E.er.P.underlying t = some .string := hu
      rw [he] at hx; rw [hj] at hi
      rw [hu', hx.ofRaw.1, hi.ofRaw.1]
      obtain ⟨h1, c, hc, h⟩ := h
      exact ⟨h1, c, hc, hK _ _ (hr.fin o (.raw _ rfl rfl)) h⟩
    · rename_i len e cs k j hu he hj
      have hu' : E.er.P.underlying t = some (.array len e) := hu
      rw [he] at hx; rw [hj] at hi
      obtain ⟨ds, hds, hc⟩ := hx.ofAgg
      rw [hu', hds, hi.ofRaw.1]
      obtain ⟨hin, h1, h2, h⟩ := bif_elim h
      obtain ⟨q, hq, ⟨hel, h⟩, _⟩ := exVP_elim (Z := Z) h
      obtain ⟨v, hv, hok, hrv⟩ := elt_rep hc hel
      exact ⟨h1, h2, hin, v, hv, hrv.plain hok, hK _ _ (hr.fin o hrv) h⟩
    · exact h.elim
  case extract x i =>
    have hx := hr.ev x
    split at h
    · rename_i vs he
      rw [he] at hx
      obtain ⟨ws, hv, hs⟩ := hx.ofTup
      rw [hv]
      simp only
      split at h
      · rename_i pp hp
        obtain ⟨hk, h⟩ := bif_elim h
        obtain ⟨w, hw, _, hrw⟩ := hs.get hp
        have hw' : ws.toArray[i]? = some w := by simpa using hw
        rw [hw']
        simp only [hrw.plain hk, cond_true]
        exact hK _ _ (hr.fin o hrw) h
      · exact h.elim
    · exact h.elim
  case call c =>
    obtain ⟨cal, args, ats⟩ := c
    cases cal with
    | value f => cases htk
    | invoke x n => cases htk
    | builtin b =>
      simp only at h htk ⊢
      unfold V1b at h
      unfold W1b
      generalize args.toList = al at h ⊢
      generalize ats.toList = tl at h ⊢
      cases b <;> first | (cases htk; done) | skip
      case len =>
        match al, tl, h with
        | [x], [t], h =>
          have hx := hr.ev x
          simp only at h ⊢
          split at h
          · rename_i e sz fl rows hu he
            have hu' : E.er.P.underlying t = some (.slice e) := hu
            rw [he] at hx
            obtain ⟨a, n, c, hv, hn, _⟩ := hx.ofList
            rw [hu', hv, ← hn]
            exact hK _ _ (hr.fin o (.raw _ rfl rfl)) h
          · rename_i e a n c hu he
            have hu' : E.er.P.underlying t = some (.slice e) := hu
            rw [he] at hx
            rw [hu', hx.ofRaw.1]
            exact hK _ _ (hr.fin o (.raw _ rfl rfl)) h
          · rename_i st hu he
            have hu' : E.er.P.underlying t = some .string := hu
            rw [he] at hx
            rw [hu', hx.ofRaw.1]
            exact hK _ _ (hr.fin o (.raw _ rfl rfl)) h
          · rename_i n e hu
            have hu' : E.er.P.underlying t = some (.array n e) := hu
            obtain ⟨hk, h⟩ := bif_elim h
            rw [hu']
            simp only [hx.plain hk, cond_true]
            exact hK _ _ (hr.fin o (.raw _ rfl rfl)) h
          · exact h.elim
        | [], _, h => exact h.elim
        | [_], [], h => exact h.elim
        | [_], _ :: _ :: _, h => exact h.elim
        | _ :: _ :: _, _, h => exact h.elim
      case min =>
        simp only at h ⊢
        split at h
        · rename_i k i is he
          rw [ints_rep hr he]
          exact hK _ _ (hr.fin o (.raw _ rfl rfl)) h
        · exact h.elim
      case max =>
        simp only at h ⊢
        split at h
        · rename_i k i is he
          rw [ints_rep hr he]
          exact hK _ _ (hr.fin o (.raw _ rfl rfl)) h
        · exact h.elim

end Go.Eng
