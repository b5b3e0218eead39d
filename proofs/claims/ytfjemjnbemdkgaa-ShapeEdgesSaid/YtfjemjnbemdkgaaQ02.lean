import Derived.Test.YtfjemjnbemdkgaaQ01
import Derived.Laws.StructEq
import Derived.Laws.AppendOwn
import Derived.IntWalk
/-
  The engine, sixth part: W1 is sound.
-/
namespace Go.Eng
open Go.RowKit

variable {C : Ctx} {a : Act} {wa : World} {st : St} {u : UW} {θ : Nat → Nat}

theorem bif_elim {c : Bool} {A : Prop} (h : (bif c then A else False)) : c = true ∧ A := by cases c <;> simp_all

theorem up_value {P : Program} {o : Oper} {r : Value} {wb : World} {next : Act → World → Prop} {Q : Exit → Act → World → Prop} (h : (execOp a.eval o).run P wa = .ok (.value r) wb) (hn : next (a.put o.dst r) wb) :
    o.uponIn Fence.wide 0 P a next Q ((execOp a.eval o).run P wa) := by rw [h]; exact hn

theorem up_skip {P : Program} {o : Oper} {wb : World} {next : Act → World → Prop} {Q : Exit → Act → World → Prop} (h : (execOp a.eval o).run P wa = .ok .skip wb) (hn : next (a.put o.dst undef) wb) :
    o.uponIn Fence.wide 0 P a next Q ((execOp a.eval o).run P wa) := by rw [h]; exact hn

theorem plain_int (k : IntKind) (i : Int) : plain (.int k i) = true := rfl
theorem plain_bool (b : Bool) : plain (.bool b) = true := rfl

/-! ### comparisons and sums -/
theorem eqs_append : ∀ {k1 k2 : List K1} {x1 x2 y1 y2 : List Value} {r : Bool}, x1.length = k1.length → y1.length = k1.length → eqs (k1 ++ k2) (x1 ++ x2) (y1 ++ y2) = some r →
    ∃ r1 r2, eqs k1 x1 y1 = some r1 ∧ eqs k2 x2 y2 = some r2 ∧ r = (r1 && r2)
  | [], k2, [], x2, [], y2, r, _, _, h => ⟨true, r, rfl, h, by simp⟩
  | k :: k1, k2, x :: x1, x2, y :: y1, y2, r, hx, hy, h => by
    simp only [List.length_cons, Nat.add_right_cancel_iff] at hx hy
    have key : ∀ (b : Bool) (r' : Bool), (match eqs (k1 ++ k2) (x1 ++ x2) (y1 ++ y2) with | some r => some (b && r) | none => none) = some r' →
        ∃ r1 r2, eqs k1 x1 y1 = some r1 ∧ eqs k2 x2 y2 = some r2 ∧ r' = (b && r1 && r2) := by
      intro b r' h
      cases he : eqs (k1 ++ k2) (x1 ++ x2) (y1 ++ y2) with
      | none => simp [he] at h
      | some r0 =>
        obtain ⟨r1, r2, e1, e2, e3⟩ := eqs_append hx hy he
        simp only [he, Option.some.injEq] at h
        exact ⟨r1, r2, e1, e2, by rw [← h, e3, Bool.and_assoc]⟩
    simp only [List.cons_append] at h
    cases k with
    | int kk =>
      cases x <;> first | (simp [eqs] at h; done) | skip
      cases y <;> first | (simp [eqs] at h; done) | skip
      rename_i ka a kb b
      simp only [eqs, Bool.cond_eq_ite] at h
      split at h
      · rename_i hk
        obtain ⟨r1, r2, e1, e2, e3⟩ := key _ _ h
        exact ⟨(a == b) && r1, r2, by simp only [eqs, hk, cond_true, e1], e2, e3⟩
      · cases h
    | bool =>
      cases x <;> first | (simp [eqs] at h; done) | skip
      cases y <;> first | (simp [eqs] at h; done) | skip
      rename_i a b
      simp only [eqs] at h
      obtain ⟨r1, r2, e1, e2, e3⟩ := key _ _ h
      exact ⟨(a == b) && r1, r2, by simp only [eqs, e1], e2, e3⟩
    | str =>
      cases x <;> first | (simp [eqs] at h; done) | skip
      cases y <;> first | (simp [eqs] at h; done) | skip
      rename_i a b
      simp only [eqs] at h
      obtain ⟨r1, r2, e1, e2, e3⟩ := key _ _ h
      exact ⟨strEq a b && r1, r2, by simp only [eqs, e1], e2, e3⟩
    | slice => simp [eqs] at h
    | ptr => simp [eqs] at h
    | fn => simp [eqs] at h
    | map => simp [eqs] at h
    | val => simp [eqs] at h
  | _ :: _, _, [], _, _, _, _, hx, _, _ => by simp at hx
  | _ :: _, _, _ :: _, _, [], _, _, _, hy, _ => by simp at hy
  | [], _, _ :: _, _, _, _, _, hx, _, _ => by simp at hx
  | [], _, [], _, _ :: _, _, _, _, hy, _ => by simp at hy

theorem run_part_agg {P : Program} {w : World} {t : TypeId} {d : TypeDesc} {cs : Array Value} {o : Nat} (hd : P.underlying t = some d) (hag : aggT P t = true) :
    (part t cs o).run P w = .ok (.agg (cs.extract o (o + P.cellsOf t))) w := by
  obtain ⟨i, hi⟩ := info_of_under hd
  simp only [part, Sem.run_bind, run_isAgg hd, hag, if_true, Result.andThen_ok, run_size hi, Sem.run_pure]

theorem run_part_one {P : Program} {w : World} {t : TypeId} {d : TypeDesc} {cs : Array Value} {o : Nat} {v : Value} (hd : P.underlying t = some d) (hag : aggT P t = false) (hv : cs[o]? = some v) :
    (part t cs o).run P w = .ok v w := by
  simp only [part, Sem.run_bind, run_isAgg hd, hag, Bool.false_eq_true, if_false, Result.andThen_ok, hv, Sem.run_pure]

theorem run_elt {P : Program} {w : World} {e : TypeId} {cs : Array Value} {off : Nat} {v : Value} (hv : eltV P e off cs.toList = some v) : (part e cs off).run P w = .ok v w := by
  unfold eltV at hv
  simp only [Bool.cond_eq_ite, Bool.and_eq_true, Nat.ble_eq] at hv
  split at hv
  · rename_i hc
    obtain ⟨hi, hle⟩ := hc
    obtain ⟨d, hud⟩ := Option.isSome_iff_exists.1 hi
    split at hv
    · rename_i hag
      simp only [Option.some.injEq] at hv
      rw [run_part_agg hud hag, ← hv]
      congr 2
      apply Array.toList_inj.1
      rw [Array.toList_extract, List.extract_eq_take_drop]
      simp
    · rename_i hag
      simp only [Bool.not_eq_true] at hag
      exact run_part_one hud hag (v := v) (by simpa using hv)
  · cases hv

theorem drop_take_cons {l : List Value} {o n : Nat} (h : o + (n + 1) ≤ l.length) : (l.drop o).take (n + 1) = l[o]'(by omega) :: (l.drop (o + 1)).take n := by
  rw [List.drop_eq_getElem_cons (by omega), List.take_succ_cons]

theorem one_drop {xs : Array Value} {o : Nat} (h : o + 1 ≤ xs.size) : (xs.toList.drop o).take 1 = [xs[o]'(by omega)] := by
  rw [drop_take_cons (n := 0) (by simpa using h)]
  simp

theorem eq_main {P : Program} {w : World} : ∀ (f : Nat) (t : TypeId) (ks : List K1), eqT P f t = some ks → ∀ (d : Nat), f ≤ d → ∀ (xs ys : Array Value) (o : Nat) (r : Bool), o + ks.length ≤ xs.size → o + ks.length ≤ ys.size →
    eqs ks ((xs.toList.drop o).take ks.length) ((ys.toList.drop o).take ks.length) = some r →
    ∃ x y, (part t xs o).run P w = .ok x w ∧ (part t ys o).run P w = .ok y w ∧ (Op.equalIn d t x y).run P w = .ok r w
  | 0, t, ks, h, _, _, _, _, _, _, _, _, _ => by simp [eqT] at h
  | f + 1, t, ks, h, d, hd, xs, ys, o, r, hx, hy, hr => by
    obtain ⟨d, rfl⟩ : ∃ d', d = d' + 1 := ⟨d - 1, by omega⟩
    simp only [eqT] at h
    cases hu : P.underlying t with
    | none => simp [hu] at h
    | some D =>
      have hone : ∀ k : K1, ks = [k] → aggT P t = false → (∀ x y, eqs [k] [x] [y] = some r → (Op.equalIn (d + 1) t x y).run P w = .ok r w) →
          ∃ x y, (part t xs o).run P w = .ok x w ∧ (part t ys o).run P w = .ok y w ∧ (Op.equalIn (d + 1) t x y).run P w = .ok r w := by
        rintro k rfl hag hk
        simp only [List.length_singleton] at hx hy hr
        rw [one_drop hx, one_drop hy] at hr
        exact ⟨xs[o], ys[o], run_part_one hu hag (Array.getElem?_eq_getElem (by omega)), run_part_one hu hag (Array.getElem?_eq_getElem (by omega)), hk _ _ hr⟩
      cases D <;> simp only [hu] at h <;> try (cases h; done)
      · simp only [Option.some.injEq] at h
        refine hone _ h.symm (by simp [aggT, hu]) fun x y hxy => ?_
        cases x <;> first | (simp [eqs] at hxy; done) | skip
        cases y <;> first | (simp [eqs] at hxy; done) | skip
        simp only [eqs] at hxy
        simp only [Option.some.injEq, Bool.and_true] at hxy
        rw [run_equalIn_bool' w d t _ _ hu, hxy]
      · rename_i k
        simp only [Option.some.injEq] at h
        refine hone _ h.symm (by simp [aggT, hu]) fun x y hxy => ?_
        cases x <;> first | (simp [eqs] at hxy; done) | skip
        cases y <;> first | (simp [eqs] at hxy; done) | skip
        simp only [eqs] at hxy
        rename_i ka a kb b
        simp only [Bool.cond_eq_ite] at hxy
        split at hxy
        · rename_i hk
          simp only [decide_eq_true_eq] at hk
          subst hk
          simp only [Option.some.injEq, Bool.and_true] at hxy
          rw [run_equalIn_int w d t _ _ _ _ hu, hxy]
        · cases hxy
      · simp only [Option.some.injEq] at h
        refine hone _ h.symm (by simp [aggT, hu]) fun x y hxy => ?_
        cases x <;> first | (simp [eqs] at hxy; done) | skip
        cases y <;> first | (simp [eqs] at hxy; done) | skip
        simp only [eqs] at hxy
        simp only [Option.some.injEq, Bool.and_true] at hxy
        rw [run_equalIn_string w d t _ _ hu, ← hxy]
        rfl
      · rename_i fs
        simp only [Bool.cond_eq_ite] at h
        split at h
        · cases h
        · rename_i hst
          simp only [Bool.not_eq_true] at hst
          cases hts : eqTs (eqT P f) 0 fs.toList with
          | none => simp [hts] at h
          | some l =>
            simp only [hts, beq_iff] at h
            split at h
            · rename_i hlen
              simp only [Option.some.injEq] at h
              subst h
              have hag : aggT P t = true := by simp [aggT, hu]
              have hfo : P.fieldsOf t = fs := by simp [Program.fieldsOf, hu]
              have hu' : P.underlying t = some (.struct (P.fieldsOf t)) := by rw [hfo]; exact hu
              refine ⟨_, _, run_part_agg hu hag, run_part_agg hu hag, ?_⟩
              rw [run_equalIn_struct w d t _ _ hu' hst, hfo]
              have hX : ∀ zs : Array Value, o + l.length ≤ zs.size → (zs.extract o (o + P.cellsOf t)).toList = (zs.toList.drop o).take l.length := by
                intro zs hz
                rw [Array.toList_extract, hlen]
                simp [List.extract_eq_take_drop]
              have key : ∀ (gs : List Field) (a : Nat) (l' : List K1) (X Y : Array Value) (r : Bool), eqTs (eqT P f) a gs = some l' → a + l'.length = X.size → a + l'.length = Y.size →
                  eqs l' (X.toList.drop a) (Y.toList.drop a) = some r → (Op.eqFields d X Y gs).run P w = .ok r w := by
                intro gs
                induction gs with
                | nil =>
                  intro a l' X Y r h1 h2 h3 h4
                  simp only [eqTs, Option.some.injEq] at h1
                  subst h1
                  simp only [List.length_nil, Nat.add_zero] at h2 h3
                  rw [List.drop_of_length_le (by simp; omega), List.drop_of_length_le (by simp; omega)] at h4
                  simp only [eqs, Option.some.injEq] at h4
                  subst h4
                  simp [Op.eqFields]
                | cons g gs ih =>
                  intro a l' X Y r h1 h2 h3 h4
                  simp only [eqTs] at h1
                  cases hg : eqT P f g.type with
                  | none => simp [hg] at h1
                  | some lg =>
                    simp only [hg, Bool.cond_eq_ite, Bool.and_eq_true, decide_eq_true_eq, beq_iff] at h1
                    split at h1
                    · rename_i hname
                      obtain ⟨hname, hoff⟩ := hname
                      cases hgs : eqTs (eqT P f) (a + lg.length) gs with
                      | none => simp [hgs] at h1
                      | some lr =>
                        simp only [hgs, Option.some.injEq] at h1
                        subst h1
                        simp only [List.length_append] at h2 h3
                        have sp : ∀ Z : Array Value, a + (lg.length + lr.length) = Z.size → Z.toList.drop a = (Z.toList.drop a).take lg.length ++ Z.toList.drop (a + lg.length) := by
                          intro Z hZ
                          rw [← List.drop_drop]; exact (List.take_append_drop _ _).symm
                        rw [sp X h2, sp Y h3] at h4
                        obtain ⟨r1, r2, e1, e2, e3⟩ := eqs_append (by simp; omega) (by simp; omega) h4
                        obtain ⟨x, y, p1, p2, p3⟩ := eq_main (w := w) f g.type lg hg d (by omega) X Y a r1 (by omega) (by omega) e1
                        have hrest := ih (a + lg.length) lr X Y r2 hgs (by omega) (by omega) e2
                        simp only [Op.eqFields]
                        rw [if_pos hname]
                        rw [hoff]
                        simp only [Sem.run_bind, p1, Result.andThen_ok, p2, p3]
                        cases r1
                        · simp [e3]
                        · simp [e3, hrest]
                    · cases h1
              refine key fs.toList 0 l _ _ r hts ?_ ?_ ?_
              · simp; omega
              · simp; omega
              · rw [List.drop_zero, List.drop_zero, hX xs hx, hX ys hy]; exact hr
            · cases h

theorem guard_ok {P : Program} {op : BinOp} {t : TypeId} {x y : Value} (X Y : Operand) (w : World) (h1 : x ≠ .nilIface) (h2 : ∀ c, x ≠ .agg c) : (eqGuard op t X Y x y).run P w = .ok () w := by
  cases x <;> first | exact absurd rfl h1 | exact absurd rfl (h2 _) | (cases op <;> rfl)

theorem intBin_sound {P : Program} {op : BinOp} {t : TypeId} {k : IntKind} {i j : Int} {K : Value → Prop} (h : intBin op k i j K) :
    ∃ v, plain v = true ∧ K v ∧ ∀ w, (binOp op t (.int k i) (.int k j)).run P w = .ok v w := by
  cases op <;> simp only [intBin] at h <;> try (exact h.elim)
  case quo => exact ⟨_, rfl, h.2, fun w => by simp [binOp, Op.intDiv, h.1]⟩
  case rem => exact ⟨_, rfl, h.2, fun w => by simp [binOp, Op.intDiv, h.1]⟩
  all_goals exact ⟨_, rfl, h, fun w => by simp [binOp, Op.intArith, Op.intCmp]⟩

theorem strBin_sound {P : Program} {op : BinOp} {t : TypeId} {i j : ByteArray} {K : Value → Prop} (h : strBin op i j K) :
    ∃ v, plain v = true ∧ K v ∧ ∀ w, (binOp op t (.string i) (.string j)).run P w = .ok v w := by
  cases op <;> simp only [strBin] at h <;> try (exact h.elim)
  case add =>
    have hm : ¬ (((i.size + j.size : Nat) : Int) > IntKind.i64.max) := by
      have : IntKind.i64.max = 9223372036854775807 := by decide
      rw [this]; omega
    exact ⟨_, rfl, h.2, fun w => by simp only [binOp, Op.stringOp]; rw [if_neg hm]; rfl⟩
  all_goals exact ⟨_, rfl, h, fun _ => rfl⟩

theorem run_eql {P : Program} {t : TypeId} {x y : Value} {r : Bool} {w : World} (hx : ∀ k i, x ≠ .int k i) (hf : ∀ k i, x ≠ .float k i) (hc : ∀ k i j, x ≠ .complex k i j) (hs : ∀ s, x ≠ .string s)
    (h : (Op.equalIn 10000 t x y).run P w = .ok r w) : (binOp .eql t x y).run P w = .ok (.bool r) w ∧ (binOp .neq t x y).run P w = .ok (.bool (!r)) w := by
  have h' : (Op.equal t x y).run P w = .ok r w := h
  cases x <;> first | exact absurd rfl (hx _ _) | exact absurd rfl (hf _ _) | exact absurd rfl (hc _ _ _) | exact absurd rfl (hs _) |
    exact ⟨by simp only [binOp, Sem.run_bind, h', Result.andThen_ok, Sem.run_pure], by simp only [binOp, Sem.run_bind, h', Result.andThen_ok, Sem.run_pure]⟩

theorem equalIn_ptr {P : Program} {t e : TypeId} (hu : P.underlying t = some (.pointer e)) (d : Nat) (a : Option Addr) (w : World) : (Op.equalIn (d + 1) t (.pointer a) (.pointer none)).run P w = .ok a.isNone w := by
  cases a <;> simp [Op.equalIn, run_under hu]
theorem equalIn_slice {P : Program} {t e : TypeId} (hu : P.underlying t = some (.slice e)) (d : Nat) (a : Option Addr) (n c n' c' : Nat) (w : World) : (Op.equalIn (d + 1) t (.slice a n c) (.slice none n' c')).run P w = .ok a.isNone w := by
  cases a <;> simp [Op.equalIn, run_under hu]
theorem equalIn_func {P : Program} {t : TypeId} {p r : Array TypeId} {v : Bool} (hu : P.underlying t = some (.func p r v)) (d : Nat) (f : Fn) (a b : Array Value) (w : World) : (Op.equalIn (d + 1) t (.func f a b) .nilFunc).run P w = .ok false w := by
  simp [Op.equalIn, run_under hu]

theorem eqT_len {P : Program} {f : Nat} {t : TypeId} {ks : List K1} (hks : eqT P (f + 1) t = some ks) (hag : aggT P t = true) : ks.length = P.cellsOf t := by
  simp only [eqT] at hks
  cases hu : P.underlying t with
  | none => simp [hu] at hks
  | some d =>
    cases d <;> simp only [hu] at hks <;> simp only [aggT, hu] at hag <;> try (cases hag; done)
    · cases hks
    · rename_i fs
      simp only [Bool.cond_eq_ite] at hks
      split at hks
      · cases hks
      · cases hts : eqTs (eqT P f) 0 fs.toList with
        | none => simp [hts] at hks
        | some l =>
          simp only [hts, beq_iff] at hks
          split at hks
          · rename_i hl; simp only [Option.some.injEq] at hks; subst hks; exact hl
          · cases hks

def eq2 (op : BinOp) (K : Value → Prop) (r : Bool) : Prop :=
  match op with
  | .eql => K (.bool r)
  | .neq => K (.bool (!r))
  | _ => False

theorem cBin_cases {P : Program} {op : BinOp} {t : TypeId} {x y : Value} {K : Value → Prop} (h : cBin P op t x y K) :
    (∃ k a b, x = .int k a ∧ y = .int k b ∧ intBin op k a b K) ∨ (∃ a b, x = .string a ∧ y = .string b ∧ strBin op a b K) ∨
    (∃ a b, x = .bool a ∧ y = .bool b ∧ P.underlying t = some .bool ∧ eq2 op K (a == b)) ∨
    (∃ a b ks r, x = .agg a ∧ y = .agg b ∧ eqT P 8 t = some ks ∧ ks.length = a.size ∧ ks.length = b.size ∧ P.eqGuardType P.depth t = false ∧ aggT P t = true ∧ eqs ks a.toList b.toList = some r ∧ eq2 op K r) ∨
    (∃ a e, x = .pointer a ∧ y = .pointer none ∧ P.underlying t = some (.pointer e) ∧ eq2 op K a.isNone) ∨
    (∃ a n c n' c' e, x = .slice a n c ∧ y = .slice none n' c' ∧ P.underlying t = some (.slice e) ∧ eq2 op K a.isNone) ∨
    (∃ f a b p r v, x = .func f a b ∧ y = .nilFunc ∧ P.underlying t = some (.func p r v) ∧ eq2 op K false) := by
  cases x with
  | int k i =>
    cases y <;> first | exact (show False from h).elim | skip
    obtain ⟨hk, h'⟩ := bif_elim (show (bif decide (_ = _) then intBin op _ _ _ K else False) from h)
    simp only [decide_eq_true_eq] at hk
    subst hk
    exact .inl ⟨_, _, _, rfl, rfl, h'⟩
  | string s =>
    cases y <;> first | exact (show False from h).elim | skip
    exact .inr (.inl ⟨_, _, rfl, rfl, h⟩)
  | bool i =>
    cases y <;> first | exact (show False from h).elim | skip
    simp only [cBin] at h
    cases hu : P.underlying t with
    | none => simp only [hu] at h
    | some d =>
      cases d <;> simp only [hu] at h
      exact .inr (.inr (.inl ⟨_, _, rfl, rfl, rfl, h⟩))
  | agg i =>
    cases y <;> first | exact (show False from h).elim | skip
    rename_i j
    simp only [cBin] at h
    cases hks : eqT P 8 t with
    | none => simp only [hks] at h
    | some ks =>
      simp only [hks] at h
      obtain ⟨hc, h⟩ := bif_elim h
      simp only [Bool.and_eq_true, beq_iff, Bool.not_eq_true'] at hc
      obtain ⟨⟨⟨ha, hb⟩, hg⟩, hag⟩ := hc
      cases hr : eqs ks i.toList j.toList with
      | none => simp only [hr] at h
      | some r =>
        simp only [hr] at h
        exact .inr (.inr (.inr (.inl ⟨_, _, _, _, rfl, rfl, rfl, ha, hb, hg, hag, hr, h⟩)))
  | pointer i =>
    cases y <;> first | exact (show False from h).elim | skip
    rename_i j
    cases j with
    | some j => exact (show False from h).elim
    | none =>
      simp only [cBin] at h
      cases hu : P.underlying t with
      | none => simp only [hu] at h
      | some d =>
        cases d <;> simp only [hu] at h
        exact .inr (.inr (.inr (.inr (.inl ⟨_, _, rfl, rfl, rfl, h⟩))))
  | slice i n c =>
    cases y <;> first | exact (show False from h).elim | skip
    rename_i j n' c'
    cases j with
    | some j => exact (show False from h).elim
    | none =>
      simp only [cBin] at h
      cases hu : P.underlying t with
      | none => simp only [hu] at h
      | some d =>
        cases d <;> simp only [hu] at h
        exact .inr (.inr (.inr (.inr (.inr (.inl ⟨_, _, _, _, _, _, rfl, rfl, rfl, h⟩)))))
  | func f i j =>
    cases y <;> first | exact (show False from h).elim | skip
    simp only [cBin] at h
    cases hu : P.underlying t with
    | none => simp only [hu] at h
    | some d =>
      cases d <;> simp only [hu] at h
      exact .inr (.inr (.inr (.inr (.inr (.inr ⟨_, _, _, _, _, _, rfl, rfl, rfl, h⟩)))))
  | _ => exact (show False from h).elim

theorem cBin_sound {P : Program} {op : BinOp} {t : TypeId} {x y : Value} {K : Value → Prop} (h : cBin P op t x y K) (X Y : Operand) :
    plain x = true ∧ plain y = true ∧ ∃ v, plain v = true ∧ K v ∧ ∀ w, (do eqGuard op t X Y x y; binOp op t x y : Sem Value).run P w = .ok v w := by
  have close : ∀ {v : Value}, x ≠ .nilIface → (∀ c, x ≠ .agg c) → plain v = true → K v → (∀ w, (binOp op t x y).run P w = .ok v w) →
      ∃ v, plain v = true ∧ K v ∧ ∀ w, (do eqGuard op t X Y x y; binOp op t x y : Sem Value).run P w = .ok v w := by
    intro v h1 h2 hp hK hr
    exact ⟨v, hp, hK, fun w => by simp only [Sem.run_bind, guard_ok X Y w h1 h2, Result.andThen_ok, hr]⟩
  have two : ∀ {r : Bool}, x ≠ .nilIface → (∀ c, x ≠ .agg c) → (∀ k i, x ≠ .int k i) → (∀ k i, x ≠ .float k i) → (∀ k i j, x ≠ .complex k i j) → (∀ s, x ≠ .string s) → (∀ w, (Op.equalIn 10000 t x y).run P w = .ok r w) →
      eq2 op K r → ∃ v, plain v = true ∧ K v ∧ ∀ w, (do eqGuard op t X Y x y; binOp op t x y : Sem Value).run P w = .ok v w := by
    intro r h1 h2 h3 h4 h5 h6 hr hK
    have hh := fun w => run_eql h3 h4 h5 h6 (hr w)
    cases op <;> simp only [eq2] at hK
    · exact close h1 h2 rfl hK fun w => (hh w).1
    · exact close h1 h2 rfl hK fun w => (hh w).2
  have hc := cBin_cases h
  clear h
  rcases hc with ⟨k, a, b, rfl, rfl, h⟩ | ⟨a, b, rfl, rfl, h⟩ | ⟨a, b, rfl, rfl, hu, h⟩ | ⟨a, b, ks, r, rfl, rfl, hks, ha, hb, hg, hag, hr, h⟩ | ⟨a, e, rfl, rfl, hu, h⟩ | ⟨a, n, c, n', c', e, rfl, rfl, hu, h⟩ | ⟨f, a, b, p, r, v, rfl, rfl, hu, h⟩
  · obtain ⟨v, hp, hK, hr⟩ := intBin_sound (P := P) (t := t) h
    exact ⟨rfl, rfl, close (by simp) (by simp) hp hK hr⟩
  · obtain ⟨v, hp, hK, hr⟩ := strBin_sound (P := P) (t := t) h
    exact ⟨rfl, rfl, close (by simp) (by simp) hp hK hr⟩
  · exact ⟨rfl, rfl, two (by simp) (by simp) (by simp) (by simp) (by simp) (by simp) (fun w => run_equalIn_bool' w 9999 t a b hu) h⟩
  · refine ⟨rfl, rfl, ?_⟩
    have hr' : eqs ks ((a.toList.drop 0).take ks.length) ((b.toList.drop 0).take ks.length) = some r := by
      rw [List.drop_zero, List.drop_zero, List.take_of_length_le (by simp; omega), List.take_of_length_le (by simp; omega)]; exact hr
    have p3 : ∀ w, (Op.equalIn 10000 t (.agg a) (.agg b)).run P w = .ok r w := by
      intro w
      obtain ⟨x, y, p1, p2, p3⟩ := eq_main (w := w) 8 t ks hks 10000 (by omega) a b 0 r (by omega) (by omega) hr'
      have hu : ∃ d, P.underlying t = some d := by
        unfold aggT at hag
        cases hu : P.underlying t with
        | none => simp [hu] at hag
        | some d => exact ⟨d, rfl⟩
      obtain ⟨d, hu⟩ := hu
      have hks' : ks.length = P.cellsOf t := eqT_len hks hag
      rw [run_part_agg hu hag] at p1 p2
      simp only [Result.ok.injEq, and_true] at p1 p2
      subst p1 p2
      rw [← hks', Nat.zero_add] at p3
      have hA : a.extract 0 ks.length = a := by rw [ha]; simp
      have hB : b.extract 0 ks.length = b := by rw [hb]; simp
      rw [hA, hB] at p3
      exact p3
    cases op <;> simp only [eq2] at h
    · exact ⟨_, rfl, h, fun w => by simp only [Sem.run_bind, run_eqGuard_agg w _ t X Y a b hg, Result.andThen_ok, run_eql_struct, p3]⟩
    · exact ⟨_, rfl, h, fun w => by simp only [Sem.run_bind, run_eqGuard_agg w _ t X Y a b hg, Result.andThen_ok, run_neq_struct, p3]⟩
  · exact ⟨rfl, rfl, two (r := a.isNone) (by simp) (by simp) (by simp) (by simp) (by simp) (by simp) (fun w => equalIn_ptr hu 9999 a w) h⟩
  · exact ⟨rfl, rfl, two (r := a.isNone) (by simp) (by simp) (by simp) (by simp) (by simp) (by simp) (fun w => equalIn_slice hu 9999 a n c n' c' w) h⟩
  · exact ⟨rfl, rfl, two (r := false) (by simp) (by simp) (by simp) (by simp) (by simp) (by simp) (fun w => equalIn_func hu 9999 f a b w) h⟩

end Go.Eng

/-
  The engine, seventh part: each operation is sound.
-/
namespace Go.Eng
open Go.RowKit

section
variable {E : Env} {C : Ctx} {a : Act} {wa : World} {st : St} {u : UW} {θ : Nat → Nat} {fz : List Nat} {o : Oper} {K : St → UW → Prop} {Q : Exit → Act → World → Prop}

/-- What is to be shown of an operation. -/
def Snd (E : Env) (C : Ctx) (fz : List Nat) (o : Oper) (st : St) (θ : Nat → Nat) (K : St → UW → Prop) (Q : Exit → Act → World → Prop) (a : Act) (wa : World) : Prop :=
  o.uponIn Fence.wide 0 E.P a (PostW C fz o st θ (privOp E.priv o) K) Q ((execOp a.eval o).run E.P wa)

theorem s_move {x : Operand} (ho : o.op = .move x ∨ o.op = .assign x) (hok : okOper C.n o = true) (hI : Inv C a wa st u θ) (h : K (fin o st (ev st.σ x)) u) : Snd E C fz o st θ K Q a wa := by
  have hx : okOp C.n x = true := opd hok (by rcases ho with ho | ho <;> simp [ho, Op.operands])
  refine up_value (r := a.eval x) (wb := wa) (by rcases ho with ho | ho <;> simp [execOp, ho]) ?_
  exact post_fin hok hI (ev_R hI hx) (fun k o' e => (ev_fk hI hx e).2) h

theorem s_pick {c x y : Operand} (ho : o.op = .pick c x y) (hok : okOper C.n o = true) (hI : Inv C a wa st u θ) {t : Bool} (hc : ev st.σ c = .bool t) (h : CIf t (K (fin o st (ev st.σ x)) u) (K (fin o st (ev st.σ y)) u)) :
    Snd E C fz o st θ K Q a wa := by
  have hxc : okOp C.n c = true := opd hok (by simp [ho, Op.operands])
  have hx : okOp C.n x = true := opd hok (by simp [ho, Op.operands])
  have hy : okOp C.n y = true := opd hok (by simp [ho, Op.operands])
  have hec := ev_val hI hxc hc rfl
  cases t with
  | true =>
    refine up_value (r := a.eval x) (wb := wa) (by simp [execOp, ho, hec, asBool]) ?_
    exact post_fin hok hI (ev_R hI hx) (fun k o' e => (ev_fk hI hx e).2) h
  | false =>
    refine up_value (r := a.eval y) (wb := wa) (by simp [execOp, ho, hec, asBool]) ?_
    exact post_fin hok hI (ev_R hI hy) (fun k o' e => (ev_fk hI hy e).2) h

theorem isBox_false {D : List (Nat × Nat)} {k : Nat} (h : isBox D k = false) : ∀ m, (k, m) ∉ D := by
  intro m hm
  have := isBox_iff.2 ⟨m, hm⟩
  rw [h] at this; cases this

theorem pres_box {k : Nat} {cs : List Value} (hk : k < C.n) (hn : C.n ≤ 65536) (hd : o.dst = some k) (hb : isBox st.D k = false) (hsz : ∀ k m, (k, m) ∈ st.D → m ≤ 65536) (hcs : cs.length ≤ 65536) (m' : Nat) :
    Pres C.n fz o.dst.toList st { st with σ := wrG (upd st.σ k (fake k 0)) k 0 cs, D := (k, m') :: st.D } where
  slot := fun i hi hni => by
    rw [hd] at hni
    simp only [Option.toList, List.mem_singleton] at hni
    simp only
    rw [wrG_slot _ _ _ (by omega), upd_ne _ _ hni]
  D := fun x hx => by simp [hx]
  fz := fun k' hk' m hm j hj => by
    have hne : k' ≠ k := fun e => isBox_false hb m (e ▸ hm)
    have := hsz k' m hm
    simp only
    rw [wrG_other, upd_ne]
    · have := gx_ge k' j; omega
    · intro i _ hi e
      exact hne (gx_inj (by omega) (by omega) e).1

theorem s_newBox {k : Nat} {cs : Array Value} {T : TypeId} (hpv : privOp E.priv o = true) (hok : okOper C.n o = true) (hI : Inv C a wa st u θ) (hd : o.dst = some k)
    (hrun : (execOp a.eval o).run E.P wa = .ok (.value (.pointer (some ⟨wa.heap.size, 0, none⟩))) (wa.alloc (.cells cs T (0, 0))))
    (h : (bif !isBox st.D k && !memN fz k && allPlain cs.toList && Nat.ble cs.size 65536 then K { st with σ := wrG (upd st.σ k (fake k 0)) k 0 cs.toList, D := (k, cs.size) :: st.D } u else False)) :
    Snd E C fz o st θ K Q a wa := by
  obtain ⟨hc, h⟩ := bif_elim h
  simp only [Bool.and_eq_true, Bool.not_eq_true', Nat.ble_eq] at hc
  obtain ⟨⟨⟨h1, h2⟩, h3⟩, h4⟩ := hc
  have hk := dst_lt hok k hd
  refine up_value hrun ?_
  rw [hd]
  exact ⟨_, _, _, hI.newBox hk (isBox_false h1) (fun v hv => (all_plain h3 v hv).1) h4, pres_box hk hI.n_le hd h1 (fun k m hm => (hI.boxes k m hm).1) (by simpa using h4) _, fun k' m hm => by (have hne : k' ≠ k := fun e => isBox_false h1 m (e ▸ hm)); exact if_neg hne, fun hn => (by rw [hpv] at hn; cases hn), h⟩

theorem s_newPub {cs : Array Value} {T : TypeId} (hok : okOper C.n o = true) (hI : Inv C a wa st u θ)
    (hrun : (execOp a.eval o).run E.P wa = .ok (.value (.pointer (some ⟨wa.heap.size, 0, none⟩))) (wa.alloc (.cells cs T (0, 0))))
    (h : ∀ (b : Nat) (w' : World), Born u.toWorld w' b (.cells cs T (0, 0)) → K (fin o st (.pointer (some ⟨b, 0, none⟩))) (u.born b w')) : Snd E C fz o st θ K Q a wa := by
  obtain ⟨w', hb, hI'⟩ := hI.born (.cells cs T (0, 0))
  exact up_value hrun (post_finP hok hI' rfl (h _ _ hb))

theorem run_alloc {t : TypeId} {z : Value} {P : Program} {w : World} (hz : (P.info? t).bind (·.zero) = some z) : (Instr.alloc t true (.tuple #[])).run P w = .ok (.pointer (some ⟨w.heap.size, 0, none⟩)) (w.alloc (.cells z.cells t (0, 0))) := by
  simp only [Instr.alloc, Sem.run_bind, run_zero hz, Result.andThen_ok, newVar, newRow, run_newObj, Sem.run_pure]
  rfl

theorem run_box {t : TypeId} {v : Value} {P : Program} {w : World} : (Instr.box t v).run P w = .ok (.pointer (some ⟨w.heap.size, 0, none⟩)) (w.alloc (.cells v.cells t (0, 0))) := by
  simp only [Instr.box, Sem.run_bind, Result.andThen_ok, newVar, newRow, run_newObj, Sem.run_pure]
  rfl

theorem s_load {t : TypeId} {x : Operand} {ks : List K1} (ho : o.op = .load t x) (hok : okOper C.n o = true) (hI : Inv C a wa st u θ) (hk : kinds E.P t = some ks)
    (h : match ev st.σ x with
      | .complex .f64 k off => match boxSize st.D k with
        | some m => bif Nat.ble (off + ks.length) m && allPlain (rdG st.σ k off ks.length) then K (fin o st (mkV (aggT E.P t) (rdG st.σ k off ks.length))) u else False
        | none => False
      | v => withPtr v fun b off => exL ks fun vs => rd u.heap b off ks.length = some vs ∧ K (fin o st (mkV (aggT E.P t) vs)) u) : Snd E C fz o st θ K Q a wa := by
  have hx : okOp C.n x = true := opd hok (by simp [ho, Op.operands])
  obtain ⟨hl1, ⟨d, hu⟩, hl2⟩ := kinds_spec hk
  split at h
  · rename_i k off he
    cases hb : boxSize st.D k with
    | none => simp only [hb] at h
    | some m =>
      simp only [hb] at h
      obtain ⟨hc, h⟩ := bif_elim h
      simp only [Bool.and_eq_true, Nat.ble_eq] at hc
      obtain ⟨h1, h2⟩ := hc
      obtain ⟨_, c, T, b1, b2, b3, _⟩ := hI.boxes k m (boxSize_mem hb)
      have hp := all_plain h2
      have hev := (ev_fk hI hx he).1
      have hlist := cells_drop_take b2 b3 ks.length off h1 hp
      refine up_value (r := mkV (aggT E.P t) (rdG st.σ k off ks.length)) (wb := wa) ?_ (post_finP hok hI (mkV_plain hp (hl2.imp id fun h => by rw [rdG_length]; exact h)) h)
      simp only [execOp, ho, hev, Instr.loadAt, Instr.sureAddr, Sem.run_bind, Sem.run_pure, Result.andThen_ok]
      rw [run_loadVar hk b1 (by omega), hlist]
      rfl
  · obtain ⟨b, off, hv, h⟩ := withPtr_elim h
    obtain ⟨vs, hlen, hp, hrd, h⟩ := exL_elim h
    have hev := ev_val hI hx hv rfl
    by_cases hz : ks.length = 0
    · have hag : aggT E.P t = true := hl2.resolve_right (by omega)
      have hvs : vs = [] := List.eq_nil_of_length_eq_zero (by omega)
      subst hvs
      obtain ⟨i, hi⟩ := info_of_under hu
      refine up_value (r := mkV (aggT E.P t) []) (wb := wa) ?_ (post_finP hok hI (by rw [hag]; rfl) h)
      simp only [execOp, ho, hev, Instr.loadAt, Instr.sureAddr, Sem.run_bind, Sem.run_pure, Result.andThen_ok, loadVar, run_isAgg hu, hag, if_true, run_size hi, ← hl1, hz]
      rfl
    · obtain ⟨c, T, f, c1, c2, c3⟩ := rd_sees hI.below hrd hz
      refine up_value (r := mkV (aggT E.P t) vs) (wb := wa) ?_ (post_finP hok hI (mkV_plain hp (hl2.imp id fun h => by omega)) h)
      simp only [execOp, ho, hev, Instr.loadAt, Instr.sureAddr, Sem.run_bind, Sem.run_pure, Result.andThen_ok]
      rw [run_loadVar hk c1 c2, ← c3]
      rfl

/-- A block of its own is written. -/
theorem pub_store {b off : Nat} {vs : List Value} {K' : UW → Prop} (hI : Inv C a wa st u θ) (h : cStore b off vs u K') (hne : vs ≠ []) :
    ∃ c T w', wa.heap[b]? = some (.cells c T (0, 0)) ∧ off + vs.length ≤ c.size ∧ Inv C a (setB wa b (.cells (wrA c off vs) T (0, 0))) st (u.sto w') θ ∧ K' (u.sto w') := by
  obtain ⟨c, T, h1, h2, h3, h4⟩ := h
  have hlt : b < u.heap.size := (Array.getElem?_eq_some_iff.1 h1).1
  have hwa : wa.heap[b]? = some (.cells c T (0, 0)) := by
    rcases hI.below.block b hlt with e | e
    · rw [← e]; exact h1
    · rw [h1] at e
      simp only [Option.some.injEq, Obj.cells.injEq] at e
      obtain ⟨rfl, _, _⟩ := e
      have : vs.length ≠ 0 := fun e => hne (List.eq_nil_of_length_eq_zero e)
      rw [Array.size_empty] at h2; omega
  have hlt' : b < wa.heap.size := (Array.getElem?_eq_some_iff.1 hwa).1
  refine ⟨c, T, setB u.toWorld b (.cells (wrA c off vs) T (0, 0)), hwa, h2, ?_, h4 _ ⟨rfl, rfl, rfl, by rw [setB_size]; exact Nat.le_refl _, setB_at hlt, fun c hc _ => setB_ne hc⟩⟩
  refine hI.world (F := fun x => x = b) (fun _ e => e ▸ h3) ⟨rfl, rfl, rfl, by rw [setB_size]; exact Nat.le_refl _, fun c _ hc => setB_ne hc⟩ ?_ ⟨rfl, rfl, rfl, by show _ ≤ (setB u.toWorld b _).heap.size; rw [setB_size]; exact Nat.le_refl _, fun c _ hc => setB_ne hc⟩ ?_ ?_ ?_
  · refine ⟨hI.below.os, hI.below.tape, hI.below.output, ?_, fun i hc => ?_⟩
    · show (setB u.toWorld b _).heap.size ≤ (setB wa b _).heap.size
      rw [setB_size, setB_size]; exact hI.below.size
    · have hc' : i < u.heap.size := by
        have hh : i < (setB u.toWorld b (.cells (wrA c off vs) T (0, 0))).heap.size := hc
        rw [setB_size] at hh; exact hh
      show (setB u.toWorld b _).heap[i]? = (setB wa b _).heap[i]? ∨ (setB u.toWorld b _).heap[i]? = _
      by_cases e : i = b
      · subst e; rw [setB_at hlt, setB_at hlt']; exact .inl rfl
      · rw [setB_ne e, setB_ne e]; exact hI.below.block i hc'
  · intro i h1 h2 h3
    have hh : i < (setB u.toWorld b (.cells (wrA c off vs) T (0, 0))).heap.size := h3
    rw [setB_size] at hh
    omega
  · intro i hc
    rw [setB_size]; exact hI.pubs i hc
  · intro i hc _
    exact hc

theorem cells_ne {t : TypeId} {v : Value} {P : Program} (h : v.cells.size = P.cellsOf t) (hz : P.cellsOf t ≠ 0) : v.cells.toList ≠ [] := by
  intro e
  have : v.cells.toList.length = 0 := by rw [e]; rfl
  simp only [Array.length_toList] at this; omega

theorem s_store {t : TypeId} {x y : Operand} (ho : o.op = .store t x y) (hok : okOper C.n o = true) (hI : Inv C a wa st u θ)
    (h : (bif plain (ev st.σ y) && Nat.beq (ev st.σ y).cells.size (E.P.cellsOf t) && allPlain (ev st.σ y).cells.toList && (E.P.info? t).isSome then match ev st.σ x with
      | .complex .f64 k off => match boxSize st.D k with
        | some m => bif Nat.ble (off + (ev st.σ y).cells.size) m && !memN fz k then K { st with σ := put (wrG st.σ k off (ev st.σ y).cells.toList) o.dst undef } u else False
        | none => False
      | v => withPtr v fun b off => cStore b off (ev st.σ y).cells.toList u fun w' => K (fin o st undef) w'
      else False)) : Snd E C fz o st θ K Q a wa := by
  have hx : okOp C.n x = true := opd hok (by simp [ho, Op.operands])
  have hy : okOp C.n y = true := opd hok (by simp [ho, Op.operands])
  obtain ⟨hc, h⟩ := bif_elim h
  simp only [Bool.and_eq_true, beq_iff] at hc
  obtain ⟨⟨⟨hpy, hsz⟩, hall⟩, hinfo⟩ := hc
  obtain ⟨i, hi⟩ := Option.isSome_iff_exists.1 hinfo
  have hp := all_plain hall
  have hey := ev_eq hI hy hpy
  generalize hvy : ev st.σ y = vy at *
  split at h
  · rename_i k off he
    cases hb : boxSize st.D k with
    | none => simp only [hb] at h
    | some m =>
      simp only [hb] at h
      obtain ⟨hc, h⟩ := bif_elim h
      simp only [Bool.and_eq_true, Nat.ble_eq, Bool.not_eq_true'] at hc
      obtain ⟨h1, h2⟩ := hc
      have hkm := boxSize_mem hb
      obtain ⟨c, T, b1, b2, hI'⟩ := hI.stBox (o := off) (vs := vy.cells.toList) hkm (by simpa using h1) (fun v hv => (hp v hv).1)
      have hev := (ev_fk hI hx he).1
      refine up_skip (wb := setB wa (θ k) (.cells (wrA c off vy.cells.toList) T (0, 0))) ?_ ⟨_, _, _, hI'.finP o.dst (dst_lt hok) (v := undef) rfl, ?_, fun _ _ _ => rfl, fun _ => rfl, h⟩
      · simp only [execOp, ho, hev, hey, Instr.storeAt, Instr.sureAddr, Sem.run_bind, Sem.run_pure, Result.andThen_ok]
        rw [run_storeVar hi hsz b1 (by omega) (fun v hv => (hp v hv).2)]
        rfl
      · have hP1 : Pres C.n fz [] st { st with σ := wrG st.σ k off vy.cells.toList } := by
          refine ⟨fun i hi _ => ?_, fun _ h => h, fun k' hk' m' hm' j hj => ?_⟩
          · simp only; rw [wrG_slot _ _ _ (Nat.lt_of_lt_of_le hi hI.n_le)]
          · have hne : k' ≠ k := fun e => by
              have := memN_iff.2 (e ▸ hk'); rw [h2] at this; cases this
            simp only
            rw [wrG_other]
            intro i _ hi e
            have := (hI.boxes k' m' hm').1
            have := (hI.boxes k m hkm).1
            simp only [Array.length_toList] at hi
            exact hne (gx_inj (by omega) (by omega) e).1
        have hP2 := Pres.fin (n := C.n) (fz := fz) { st with σ := wrG st.σ k off vy.cells.toList } o.dst (dst_lt hok) hI.n_le undef
        have := hP1.trans hP2
        simpa using this
  · obtain ⟨b, off, hv, h⟩ := withPtr_elim h
    have hev := ev_val hI hx hv rfl
    by_cases hz : vy.cells.toList = []
    · obtain ⟨c, T, h1, h2, h3, h4⟩ := h
      rw [hz] at h4
      simp only [wrA] at h4
      have hs0 : vy.cells.size = 0 := by have := congrArg List.length hz; simpa using this
      have hS : Sto u.toWorld u.toWorld b (.cells c T (0, 0)) := ⟨rfl, rfl, rfl, Nat.le_refl _, h1, fun _ _ _ => rfl⟩
      refine up_skip (wb := wa) ?_ (post_finP hok (u' := u.sto u.toWorld) (θ := θ) ?_ rfl (h4 _ hS))
      · simp only [execOp, ho, hev, hey, Instr.storeAt, Instr.sureAddr, Sem.run_bind, Sem.run_pure, Result.andThen_ok, storeVar, run_size hi]
        rw [if_neg (by omega), hz]
        simp [storeCells]
      · exact hI
    · obtain ⟨c, T, w', c1, c2, hI', hK⟩ := pub_store hI h hz
      simp only [Array.length_toList] at c2
      refine up_skip (wb := setB wa b (.cells (wrA c off vy.cells.toList) T (0, 0))) ?_ (post_finP hok hI' rfl hK)
      simp only [execOp, ho, hev, hey, Instr.storeAt, Instr.sureAddr, Sem.run_bind, Sem.run_pure, Result.andThen_ok]
      rw [run_storeVar hi hsz c1 c2 (fun v hv => (hp v hv).2)]
      rfl

theorem s_bin {op : BinOp} {t t' : TypeId} {x y : Operand} (ho : o.op = .binOp op t x y t') (hok : okOper C.n o = true) (hI : Inv C a wa st u θ) (h : cBin E.P op t (ev st.σ x) (ev st.σ y) fun v => K (fin o st v) u) :
    Snd E C fz o st θ K Q a wa := by
  have hx : okOp C.n x = true := opd hok (by simp [ho, Op.operands])
  have hy : okOp C.n y = true := opd hok (by simp [ho, Op.operands])
  obtain ⟨px, py, v, hp, hK, hr⟩ := cBin_sound h x y
  refine up_value (r := v) (wb := wa) ?_ (post_finP hok hI hp hK)
  simp only [execOp, ho]
  rw [ev_eq hI hx px, ev_eq hI hy py]
  rw [Sem.run_bind, hr]
  rfl

end
end Go.Eng

/-
  The engine, eighth part: the other operations.
-/
namespace Go.Eng
open Go.RowKit

section
variable {E : Env} {C : Ctx} {a : Act} {wa : World} {st : St} {u : UW} {θ : Nat → Nat} {fz : List Nat} {o : Oper} {K : St → UW → Prop} {Q : Exit → Act → World → Prop}

theorem s_un {op : UnOp} {t : TypeId} {x : Operand}
    (h : match op, ev st.σ x with
      | .not, .bool b => K (fin o st (.bool (!b))) u
      | .neg, .int k n => K (fin o st (.int k (k.wrap (0 - n)))) u
      | _, _ => False) (ho : o.op = .unOp op t x) (hok : okOper C.n o = true) (hI : Inv C a wa st u θ) : Snd E C fz o st θ K Q a wa := by
  have hx : okOp C.n x = true := opd hok (by simp [ho, Op.operands])
  split at h
  · rename_i b he
    refine up_value (r := .bool (!b)) (wb := wa) ?_ (post_finP hok hI rfl h)
    simp [execOp, ho, ev_val hI hx he rfl, Op.unary]
  · rename_i k n he
    refine up_value (r := .int k (k.wrap (0 - n))) (wb := wa) ?_ (post_finP hok hI rfl h)
    simp [execOp, ho, ev_val hI hx he rfl, Op.unary, Op.intArith]
  · exact h.elim

theorem s_conv {s d : TypeId} {x : Operand} (ho : o.op = .convert s d x) (hok : okOper C.n o = true) (hI : Inv C a wa st u θ)
    (h : bif plain (ev st.σ x) then (match pv E.P (convert s d (ev st.σ x)) with
      | some v => bif plain v then K (fin o st v) u else False
      | none => False) else False) : Snd E C fz o st θ K Q a wa := by
  have hx : okOp C.n x = true := opd hok (by simp [ho, Op.operands])
  obtain ⟨hp, h⟩ := bif_elim h
  cases hv : pv E.P (convert s d (ev st.σ x)) with
  | none => simp only [hv] at h
  | some v =>
    simp only [hv] at h
    obtain ⟨hpv, h⟩ := bif_elim h
    refine up_value (r := v) (wb := wa) ?_ (post_finP hok hI hpv h)
    simp only [execOp, ho, ev_eq hI hx hp, Sem.run_bind, pv_run hv wa]
    rfl

theorem evs_eq (hI : Inv C a wa st u θ) : ∀ {xs : List Operand}, (∀ x ∈ xs, okOp C.n x = true) → (xs.all fun x => plain (ev st.σ x)) = true → xs.map a.eval = xs.map (ev st.σ)
  | [], _, _ => rfl
  | x :: xs, h, hp => by
    simp only [List.all_cons, Bool.and_eq_true] at hp
    simp only [List.map_cons]
    rw [ev_eq hI (h x (by simp)) hp.1, evs_eq hI (fun y hy => h y (by simp [hy])) hp.2]

theorem arr_evs (hI : Inv C a wa st u θ) {xs : Array Operand} (h : ∀ x ∈ xs.toList, okOp C.n x = true) (hp : (xs.toList.all fun x => plain (ev st.σ x)) = true) : xs.map a.eval = (xs.toList.map (ev st.σ)).toArray := by
  rw [← evs_eq hI h hp]
  apply Array.toList_inj.1
  simp

theorem s_mkf {fn : Fn} {first captured : Array Operand} (ho : o.op = .makeFunc fn first captured) (hok : okOper C.n o = true) (hI : Inv C a wa st u θ)
    (h : bif first.toList.all (fun x => plain (ev st.σ x)) && captured.toList.all (fun x => plain (ev st.σ x)) then
      K (fin o st (.func fn (first.toList.map (ev st.σ)).toArray (captured.toList.map (ev st.σ)).toArray)) u else False) : Snd E C fz o st θ K Q a wa := by
  obtain ⟨hc, h⟩ := bif_elim h
  simp only [Bool.and_eq_true] at hc
  have h1 : ∀ x ∈ first.toList, okOp C.n x = true := fun x hx => opd hok (by simp [ho, Op.operands]; left; simpa using hx)
  have h2 : ∀ x ∈ captured.toList, okOp C.n x = true := fun x hx => opd hok (by simp [ho, Op.operands]; right; simpa using hx)
  refine up_value (wb := wa) ?_ (post_finP hok hI rfl h)
  simp only [execOp, ho, arr_evs hI h1 hc.1, arr_evs hI h2 hc.2, Instr.makeFunc]
  rfl

theorem s_ext {x : Operand} {i : Nat} (ho : o.op = .extract x i) (hok : okOper C.n o = true) (hI : Inv C a wa st u θ)
    (h : match ev st.σ x with
      | .tuple vs => (match vs[i]? with
        | some v => bif plain v then K (fin o st v) u else False
        | none => False)
      | _ => False) : Snd E C fz o st θ K Q a wa := by
  have hx : okOp C.n x = true := opd hok (by simp [ho, Op.operands])
  split at h
  · rename_i vs he
    cases hv : vs[i]? with
    | none => simp only [hv] at h
    | some v =>
      simp only [hv] at h
      obtain ⟨hpv, h⟩ := bif_elim h
      refine up_value (r := v) (wb := wa) ?_ (post_finP hok hI hpv h)
      simp [execOp, ho, ev_val hI hx he rfl, Instr.extract, hv]
  · exact h.elim

theorem s_nil {x : Operand} (ho : o.op = .nilCheck x) (hok : okOper C.n o = true) (hI : Inv C a wa st u θ)
    (h : match ev st.σ x with
      | .complex .f64 k off => K (fin o st (fake k off)) u
      | .pointer p => nn p (K (fin o st (.pointer p)) u)
      | .func f p q => fnOk f (K (fin o st (.func f p q)) u)
      | _ => False) : Snd E C fz o st θ K Q a wa := by
  have hx : okOp C.n x = true := opd hok (by simp [ho, Op.operands])
  split at h
  · rename_i k off he
    obtain ⟨hev, hm⟩ := ev_fk hI hx he
    refine up_value (r := .pointer (some ⟨θ k, off, none⟩)) (wb := wa) (by simp [execOp, ho, hev]) ?_
    exact post_fin hok hI (v := fake k off) rfl (fun k' o' e => by simp only [Value.complex.injEq, true_and] at e; rw [← e.1]; exact hm) h
  · rename_i p he
    have hev := ev_val hI hx he rfl
    cases p with
    | none => exact h.elim
    | some p => exact up_value (r := .pointer (some p)) (wb := wa) (by simp [execOp, ho, hev]) (post_finP hok hI rfl h)
  · rename_i f p q he
    have hev := ev_val hI hx he rfl
    cases f with
    | method n => exact h.elim
    | _ => exact up_value (wb := wa) (by simp [execOp, ho, hev]) (post_finP hok hI rfl h)
  · exact h.elim

theorem fOff_spec {P : Program} {t : TypeId} {f d : Nat} (h : fOff P t f = some d) : ∃ fs x, P.underlying t = some (.struct fs) ∧ fs[f]? = some x ∧ x.offset = d ∧ P.cellsOf x.type ≠ 0 := by
  unfold fOff at h
  cases hu : P.underlying t with
  | none => simp [hu] at h
  | some D =>
    cases D <;> simp only [hu] at h <;> try (cases h; done)
    rename_i fs
    cases hf : fs[f]? with
    | none => simp [hf] at h
    | some x =>
      simp only [hf, Bool.cond_eq_ite, beq_iff] at h
      split at h
      · cases h
      · rename_i hz
        simp only [Option.some.injEq] at h
        exact ⟨fs, x, rfl, hf, h, hz⟩

theorem run_fieldAt {P : Program} {w : World} {t : TypeId} {f d b off : Nat} (h : fOff P t f = some d) : (Instr.fieldAt t (.pointer (some ⟨b, off, none⟩)) f).run P w = .ok (.pointer (some ⟨b, off + d, none⟩)) w := by
  obtain ⟨fs, x, hu, hf, rfl, hz⟩ := fOff_spec h
  have hi : ∃ i, P.info? x.type = some i := by
    cases hi : P.info? x.type with
    | none => simp [Program.cellsOf, hi] at hz
    | some i => exact ⟨i, rfl⟩
  obtain ⟨i, hi⟩ := hi
  simp only [Instr.fieldAt, Sem.run_bind, run_under hu, Result.andThen_ok, hf, Instr.sureAddr, Sem.run_pure, fieldPlace, run_size hi, if_neg hz, add_addr]

theorem s_fa {t : TypeId} {x : Operand} {f d : Nat} (ho : o.op = .fieldAddr t x f) (hok : okOper C.n o = true) (hI : Inv C a wa st u θ) (hd : fOff E.P t f = some d)
    (h : match ev st.σ x with
      | .complex .f64 k off => K (fin o st (fake k (off + d))) u
      | v => withPtr v fun b off => K (fin o st (.pointer (some ⟨b, off + d, none⟩))) u) : Snd E C fz o st θ K Q a wa := by
  have hx : okOp C.n x = true := opd hok (by simp [ho, Op.operands])
  split at h
  · rename_i k off he
    obtain ⟨hev, hm⟩ := ev_fk hI hx he
    refine up_value (r := .pointer (some ⟨θ k, off + d, none⟩)) (wb := wa) ?_ ?_
    · simp only [execOp, ho, hev, Sem.run_bind, run_fieldAt hd]; rfl
    · exact post_fin hok hI (v := fake k (off + d)) rfl (fun k' o' e => by simp only [Value.complex.injEq, true_and] at e; rw [← e.1]; exact hm) h
  · obtain ⟨b, off, hv, h⟩ := withPtr_elim h
    have hev := ev_val hI hx hv rfl
    refine up_value (r := .pointer (some ⟨b, off + d, none⟩)) (wb := wa) ?_ (post_finP hok hI rfl h)
    simp only [execOp, ho, hev, Sem.run_bind, run_fieldAt hd]; rfl

theorem s_fld {t : TypeId} {x : Operand} {f : Nat} (ho : o.op = .field t x f) (hok : okOper C.n o = true) (hI : Inv C a wa st u θ)
    (h : match ev st.σ x with
      | .agg cs => (match fldV E.P t f cs.toList with
        | some v => bif plain v then K (fin o st v) u else False
        | none => False)
      | _ => False) : Snd E C fz o st θ K Q a wa := by
  have hx : okOp C.n x = true := opd hok (by simp [ho, Op.operands])
  split at h
  · rename_i cs he
    cases hv : fldV E.P t f cs.toList with
    | none => simp only [hv] at h
    | some v =>
      simp only [hv] at h
      obtain ⟨hpv, h⟩ := bif_elim h
      refine up_value (r := v) (wb := wa) ?_ (post_finP hok hI hpv h)
      unfold fldV at hv
      cases hu : E.P.underlying t with
      | none => simp [hu] at hv
      | some D =>
        cases D <;> simp only [hu] at hv <;> try (cases hv; done)
        rename_i fs
        cases hf : fs[f]? with
        | none => simp [hf] at hv
        | some y =>
          simp only [hf, Bool.cond_eq_ite, Bool.and_eq_true, Nat.ble_eq] at hv
          split at hv
          · rename_i hc
            obtain ⟨hi, hle⟩ := hc
            obtain ⟨d, hud⟩ := Option.isSome_iff_exists.1 hi
            simp only [execOp, ho, ev_val hI hx he rfl, Instr.field, Sem.run_bind, run_under hu, Result.andThen_ok, hf, asAgg, Sem.run_pure]
            split at hv
            · rename_i hag
              simp only [Option.some.injEq] at hv
              rw [run_part_agg hud hag, ← hv]
              simp only [Result.andThen_ok]
              congr 3
              apply Array.toList_inj.1
              rw [Array.toList_extract, List.extract_eq_take_drop]
              simp
            · rename_i hag
              simp only [Bool.not_eq_true] at hag
              rw [run_part_one hud hag (v := v) (by simpa using hv)]
              rfl
          · cases hv
  · exact h.elim

/-- The bounds of a slice expression. -/
theorem run_bound {P : Program} {w : World} {k : IntKind} {i : Int} {y : Nat} {code : BoundsCode} (h1 : 0 ≤ i) (h2 : i ≤ y) : (Instr.sliceBound (.int k i) y code).run P w = .ok i.toNat w := by
  simp only [Instr.sliceBound, asIntOf, Sem.run_bind, Sem.run_pure, Result.andThen_ok]
  rw [if_pos ⟨h1, h2⟩]; rfl

theorem optInt_none {ρ : Operand → Value} {d i : Int} (h : optInt ρ none d = some i) : i = d := by simp only [optInt, Option.some.injEq] at h; exact h.symm
theorem optInt_some {ρ : Operand → Value} {x : Operand} {d i : Int} (h : optInt ρ (some x) d = some i) : ∃ k, ρ x = .int k i := by
  simp only [optInt] at h
  split at h
  · rename_i k j he; simp only [Option.some.injEq] at h; subst h; exact ⟨k, he⟩
  · cases h

theorem run_bounds {P : Program} {w : World} {isS : Bool} {len cap : Nat} {lo hi mx : Option Operand} {ρ ρr : Operand → Value} {l h m : Int} (hev : ∀ x k i, (lo = some x ∨ hi = some x ∨ mx = some x) → ρ x = .int k i → ρr x = .int k i)
    (hl : optInt ρ lo 0 = some l) (hh : optInt ρ hi len = some h) (hm : optInt ρ mx cap = some m) (hbad : (mx.isSome && hi.isNone) = false)
    (h0 : 0 ≤ l) (h1 : l ≤ h) (h2 : h ≤ m) (h3 : m ≤ cap) : (Instr.sliceBounds isS len cap (lo.map ρr) (hi.map ρr) (mx.map ρr)).run P w = .ok (l.toNat, h.toNat, m.toNat) w := by
  have fin : ∀ (H M : Nat) (code : BoundsCode), l ≤ (H : Int) → ∀ (X : Option Value), X = lo.map ρr →
      (match X with | some v => (do let l ← Instr.sliceBound v H code; pure (l, H, M) : Sem (Nat × Nat × Nat)) | none => (do let l ← pure 0; pure (l, H, M) : Sem (Nat × Nat × Nat))).run P w = .ok (l.toNat, H, M) w := by
    rintro H M code hH X rfl
    cases lo with
    | none => rw [optInt_none hl]; simp
    | some x =>
      obtain ⟨k, hk⟩ := optInt_some hl
      simp only [Option.map_some, hev x k l (by simp) hk, Sem.run_bind, run_bound h0 hH, Result.andThen_ok, Sem.run_pure]
  cases mx with
  | none =>
    obtain rfl := optInt_none hm
    cases hi with
    | none =>
      obtain rfl := optInt_none hh
      simp only [Instr.sliceBounds, Option.map_none, Sem.run_bind, Sem.run_pure, Result.andThen_ok, Int.toNat_natCast]
      exact fin len cap _ h1 _ rfl
    | some y =>
      obtain ⟨k, hk⟩ := optInt_some hh
      simp only [Instr.sliceBounds, Option.map_none, Option.map_some, Sem.run_bind, Sem.run_pure, Result.andThen_ok, Int.toNat_natCast, hev y k h (by simp) hk, run_bound (by omega) h2]
      exact fin h.toNat cap _ (by omega) _ rfl
  | some z =>
    obtain ⟨kz, hkz⟩ := optInt_some hm
    cases hi with
    | none => simp at hbad
    | some y =>
      obtain ⟨k, hk⟩ := optInt_some hh
      simp only [Instr.sliceBounds, Option.map_some, Sem.run_bind, Result.andThen_ok, hev z kz m (by simp) hkz, run_bound (show 0 ≤ m by omega) h3, hev y k h (by simp) hk,
        run_bound (show 0 ≤ h by omega) (show h ≤ ((m.toNat : Nat) : Int) by omega)]
      exact fin h.toNat m.toNat _ (by omega) _ rfl

theorem s_slice {t : TypeId} {x : Operand} {lo hi mx : Option Operand}
    (h : match E.P.underlying t, ev st.σ x with
      | some (.slice e), .slice b len cap => (match optInt (ev st.σ) lo 0, optInt (ev st.σ) hi len, optInt (ev st.σ) mx cap with
        | some l, some h, some m => (bif (mx.isSome && hi.isNone) || (E.P.info? e).isNone then False else (m.toNat = l.toNat ∨ noSpot b) ∧ 0 ≤ l ∧ l ≤ h ∧ h ≤ m ∧ m ≤ cap ∧ K (fin o st (.slice (slA b l.toNat m.toNat (E.P.cellsOf e)) (h.toNat - l.toNat) (m.toNat - l.toNat))) u)
        | _, _, _ => False)
      | some .string, .string s => (match mx with
        | some _ => False
        | none => match optInt (ev st.σ) lo 0, optInt (ev st.σ) hi s.size with
          | some l, some h => 0 ≤ l ∧ l ≤ h ∧ h ≤ s.size ∧ K (fin o st (.string (s.extract l.toNat h.toNat))) u
          | _, _ => False)
      | _, _ => False) (ho : o.op = .slice t x lo hi mx) (hok : okOper C.n o = true) (hI : Inv C a wa st u θ) : Snd E C fz o st θ K Q a wa := by
  have hx : okOp C.n x = true := opd hok (by simp [ho, Op.operands])
  have hev : ∀ y k i, (lo = some y ∨ hi = some y ∨ mx = some y) → ev st.σ y = .int k i → a.eval y = .int k i := by
    intro y k i hy he
    refine ev_val hI (opd hok ?_) he rfl
    rcases hy with rfl | rfl | rfl <;> simp [ho, Op.operands]
  split at h
  · rename_i e b len cap hu he
    split at h
    · rename_i l h' m hl hh hm
      cases hbad' : (mx.isSome && hi.isNone) || (E.P.info? e).isNone with
      | true => simp only [hbad', cond_true] at h
      | false =>
        simp only [hbad', cond_false] at h
        simp only [Bool.or_eq_false_iff] at hbad'
        obtain ⟨hbad, hie⟩ := hbad'
        obtain ⟨i, hi'⟩ : ∃ i, E.P.info? e = some i := by cases hq : E.P.info? e <;> simp_all
        obtain ⟨hns, h0, h1, h2, h3, hK⟩ := h
        refine up_value (r := .slice (slA b l.toNat m.toNat (E.P.cellsOf e)) (h'.toNat - l.toNat) (m.toNat - l.toNat)) (wb := wa) ?_ (post_finP hok hI rfl hK)
        simp only [execOp, ho, ev_val hI hx he rfl, Sem.run_bind, Instr.sliceAt, run_under hu, Result.andThen_ok, Instr.slice, run_bounds hev hl hh hm hbad h0 h1 h2 h3, run_size hi', Sem.run_pure]
        congr 3
        unfold slA
        split
        · rfl
        · rename_i hml
          cases b with
          | none => rfl
          | some b =>
            simp only [Option.map_some, Option.some.injEq]
            unfold Addr.add
            split
            · rename_i h0'
              obtain ⟨bb, bo, bs⟩ := b
              have := (hns.resolve_left hml) _ rfl
              simp only at this
              subst this
              simp [h0']
            · rfl
    · exact h.elim
  · rename_i s hu he
    cases mx with
    | some _ => exact h.elim
    | none =>
      simp only at h
      split at h
      · rename_i l h' hl hh
        obtain ⟨h0, h1, h2, hK⟩ := h
        refine up_value (r := .string (s.extract l.toNat h'.toNat)) (wb := wa) ?_ (post_finP hok hI rfl hK)
        have hb := run_bounds (P := E.P) (w := wa) (isS := false) (len := s.size) (cap := s.size) (mx := none) (m := s.size) (fun y k i hy => hev y k i (by rcases hy with h | h | h; exact .inl h; exact .inr (.inl h); cases h)) hl hh rfl (by simp) h0 h1 h2 (by omega)
        simp only [execOp, ho, ev_val hI hx he rfl, Sem.run_bind, Instr.sliceAt, run_under hu, Result.andThen_ok, Instr.slice]
        simp only [Option.map_none] at hb
        simp only [Option.map_none, Option.isSome_none, Bool.false_eq_true, if_false, Sem.run_bind, hb, Result.andThen_ok, Sem.run_pure]
      · exact h.elim
  · exact h.elim

end
end Go.Eng

/-
  The engine, ninth part: indexes, building, builtins, calls.
-/
namespace Go.Eng
open Go.RowKit

section
variable {E : Env} {C : Ctx} {a : Act} {wa : World} {st : St} {u : UW} {θ : Nat → Nat} {fz : List Nat} {o : Oper} {K : St → UW → Prop} {Q : Exit → Act → World → Prop}

theorem cellsOf_info {P : Program} {t : TypeId} (h : P.cellsOf t ≠ 0) : ∃ i, P.info? t = some i := by
  cases hi : P.info? t with
  | none => simp [Program.cellsOf, hi] at h
  | some i => exact ⟨i, rfl⟩

theorem s_ia {t : TypeId} {x i : Operand} (ho : o.op = .indexAddr t x i) (hok : okOper C.n o = true) (hI : Inv C a wa st u θ)
    (h : match E.P.underlying t, ev st.σ x, ev st.σ i with
      | some (.slice e), .slice b len _, .int _ j => (bif (E.P.info? e).isSome then withSl b fun b off => 0 ≤ j ∧ j < len ∧ K (fin o st (.pointer (some ⟨b, off + j.toNat * E.P.cellsOf e, none⟩))) u else False)
      | some (.array len e), .complex .f64 k off, .int _ j => (bif decide (0 ≤ j) && decide (j < len) && (E.P.info? e).isSome then K (fin o st (fake k (off + j.toNat * E.P.cellsOf e))) u else False)
      | _, _, _ => False) : Snd E C fz o st θ K Q a wa := by
  have hx : okOp C.n x = true := opd hok (by simp [ho, Op.operands])
  have hi : okOp C.n i = true := opd hok (by simp [ho, Op.operands])
  split at h
  · rename_i e b len c k j hu he hei
    obtain ⟨hin, h⟩ := bif_elim h
    obtain ⟨ie, hie⟩ := Option.isSome_iff_exists.1 hin
    obtain ⟨bb, off, rfl, h1, h2, h⟩ := withSl_elim h
    refine up_value (r := .pointer (some ⟨bb, off + j.toNat * E.P.cellsOf e, none⟩)) (wb := wa) ?_ (post_finP hok hI rfl h)
    simp only [execOp, ho, ev_val hI hx he rfl, ev_val hI hi hei rfl, Instr.indexAt, asIntOf, Sem.run_bind, Sem.run_pure, Result.andThen_ok, run_under hu]
    rw [if_pos ⟨h1, h2⟩]
    simp only [Sem.run_bind, run_size hie, Result.andThen_ok, Sem.run_pure, add_addr]
  · rename_i len e k off kk j hu he hei
    obtain ⟨hc, h⟩ := bif_elim h
    simp only [Bool.and_eq_true, decide_eq_true_eq] at hc
    obtain ⟨⟨h1, h2⟩, hin⟩ := hc
    obtain ⟨ie, hie⟩ := Option.isSome_iff_exists.1 hin
    obtain ⟨hev, hm⟩ := ev_fk hI hx he
    refine up_value (r := .pointer (some ⟨θ k, off + j.toNat * E.P.cellsOf e, none⟩)) (wb := wa) ?_ ?_
    · simp only [execOp, ho, hev, ev_val hI hi hei rfl, Instr.indexAt, asIntOf, Sem.run_bind, Sem.run_pure, Result.andThen_ok, run_under hu, Instr.sureAddr]
      rw [if_pos ⟨h1, h2⟩]
      simp only [Sem.run_bind, run_size hie, Result.andThen_ok, Sem.run_pure, add_addr]
    · exact post_fin hok hI (v := fake k _) rfl (fun k' o' e => by simp only [Value.complex.injEq, true_and] at e; rw [← e.1]; exact hm) h
  · exact h.elim

theorem s_idx {t : TypeId} {x i : Operand} (ho : o.op = .index t x i) (hok : okOper C.n o = true) (hI : Inv C a wa st u θ)
    (h : match E.P.underlying t, ev st.σ x, ev st.σ i with
      | some .string, .string s, .int _ j => 0 ≤ j ∧ ∃ c : UInt8, s[j.toNat]? = some c ∧ K (fin o st (.int .u8 c.toNat)) u
      | some (.array len e), .agg cs, .int _ j => 0 ≤ j ∧ j < len ∧ (E.P.info? e).isSome = true ∧ ∃ v, eltV E.P e (j.toNat * E.P.cellsOf e) cs.toList = some v ∧ plain v = true ∧ K (fin o st v) u
      | _, _, _ => False) : Snd E C fz o st θ K Q a wa := by
  have hx : okOp C.n x = true := opd hok (by simp [ho, Op.operands])
  have hi : okOp C.n i = true := opd hok (by simp [ho, Op.operands])
  split at h
  · rename_i s k j hu he hei
    obtain ⟨h1, c, h2, h⟩ := h
    refine up_value (r := .int .u8 c.toNat) (wb := wa) ?_ (post_finP hok hI rfl h)
    simp only [execOp, ho, ev_val hI hx he rfl, ev_val hI hi hei rfl, Instr.index, asIntOf, Sem.run_bind, Sem.run_pure, Result.andThen_ok, run_under hu, if_pos h1, h2]
  · rename_i len e cs k j hu he hei
    obtain ⟨h1, h2, hin, v, hv, hpv, h⟩ := h
    obtain ⟨ie, hie⟩ := Option.isSome_iff_exists.1 hin
    refine up_value (r := v) (wb := wa) ?_ (post_finP hok hI hpv h)
    simp only [execOp, ho, ev_val hI hx he rfl, ev_val hI hi hei rfl, Instr.index, asIntOf, Sem.run_bind, Sem.run_pure, Result.andThen_ok, run_under hu, if_pos (show (0 : Int) ≤ j ∧ j < len from ⟨h1, h2⟩), run_size hie]
    rw [run_elt hv]; rfl
  · exact h.elim

theorem pairs_eq (hI : Inv C a wa st u θ) {ps : Array (Nat × Operand)} (h : ∀ x ∈ ps.toList, okOp C.n x.2 = true) (hp : (ps.toList.all fun p => plain (ev st.σ p.2)) = true) :
    (ps.map fun p => (p.1, a.eval p.2)) = (ps.toList.map fun p => (p.1, ev st.σ p.2)).toArray := by
  apply Array.toList_inj.1
  simp only [Array.toList_map]
  apply List.map_congr_left
  intro p hpm
  rw [ev_eq hI (h p hpm) (List.all_eq_true.1 hp p hpm)]

theorem s_bld {t : TypeId} {ps : Array (Nat × Operand)} (ho : o.op = .build t ps) (hok : okOper C.n o = true) (hI : Inv C a wa st u θ)
    (h : bif ps.toList.all fun p => plain (ev st.σ p.2) then (match bld E.P t (ps.toList.map fun p => (p.1, ev st.σ p.2)) with
      | some vs => K (fin o st (.agg vs.toArray)) u
      | none => False) else False) : Snd E C fz o st θ K Q a wa := by
  obtain ⟨hp, h⟩ := bif_elim h
  have hx : ∀ x ∈ ps.toList, okOp C.n x.2 = true := fun x hx => opd hok (by simp only [ho, Op.operands]; simp only [List.mem_toArray, List.mem_map]; exact ⟨x, hx, rfl⟩)
  cases hb : bld E.P t (ps.toList.map fun p => (p.1, ev st.σ p.2)) with
  | none => simp only [hb] at h
  | some vs =>
    simp only [hb] at h
    refine up_value (r := .agg vs.toArray) (wb := wa) ?_ (post_finP hok hI rfl h)
    have e := pairs_eq hI hx hp
    simp only [execOp, ho, e, Sem.run_bind]
    rw [run_build (r := vs) (by simpa using hb)]
    rfl

theorem s_bls {t : TypeId} {len : Nat} {ps : Array (Nat × Operand)} (ho : o.op = .buildSlice t len ps) (hok : okOper C.n o = true) (hI : Inv C a wa st u θ)
    (h : bif (ps.toList.all fun p => plain (ev st.σ p.2)) && Nat.beq ps.toList.length len then (match elemT E.P t with
      | none => False
      | some e => match bldL (E.P.cellsOf e) 0 (ps.toList.map fun p => (p.1, ev st.σ p.2)) with
        | some vs => bif Nat.ble vs.length 65536 && ((E.P.info? e).bind (·.zero)).isSome && !Nat.beq (E.P.cellsOf e) 0 then
            ∀ (b : Nat) (w' : World), Born u.toWorld w' b (.cells vs.toArray e (0, 0)) → K (fin o st (.slice (some ⟨b, 0, none⟩) len len)) (u.born b w') else False
        | none => False) else False) : Snd E C fz o st θ K Q a wa := by
  obtain ⟨hc, h⟩ := bif_elim h
  simp only [Bool.and_eq_true, beq_iff] at hc
  obtain ⟨hp, hlen⟩ := hc
  have hx : ∀ x ∈ ps.toList, okOp C.n x.2 = true := fun x hx => opd hok (by simp only [ho, Op.operands]; simp only [List.mem_toArray, List.mem_map]; exact ⟨x, hx, rfl⟩)
  unfold elemT at h
  cases hu : E.P.underlying t with
  | none => simp only [hu] at h
  | some d =>
    cases d <;> simp only [hu] at h
    rename_i e
    cases hb : bldL (E.P.cellsOf e) 0 (ps.toList.map fun p => (p.1, ev st.σ p.2)) with
    | none => simp only [hb] at h
    | some vs =>
      simp only [hb] at h
      obtain ⟨hc, h⟩ := bif_elim h
      simp only [Bool.and_eq_true, Nat.ble_eq, Bool.not_eq_true'] at hc
      obtain ⟨⟨h1, h2⟩, h3⟩ := hc
      obtain ⟨z, hz⟩ := Option.isSome_iff_exists.1 h2
      have hnz : E.P.cellsOf e ≠ 0 := fun e0 => by rw [beq_iff.2 e0] at h3; cases h3
      obtain ⟨ie, hie⟩ := cellsOf_info hnz
      have hvl := bldL_len hb
      simp only [List.length_map, hlen] at hvl
      obtain ⟨w', hb', hI'⟩ := hI.born (.cells vs.toArray e (0, 0))
      refine up_value (r := .slice (some ⟨wa.heap.size, 0, none⟩) len len) (wb := wa.alloc (.cells vs.toArray e (0, 0))) ?_ (post_finP hok hI' rfl (h _ _ hb'))
      have e0 := pairs_eq hI hx hp
      simp only [execOp, ho, e0, Sem.run_bind, Instr.buildSlice, run_under hu, Result.andThen_ok, run_size hie]
      rw [if_neg (by rw [← hvl]; omega)]
      have hfill : ∀ cs : Array Value, cs.size = len * E.P.cellsOf e → Instr.fill (fun i => some (i * E.P.cellsOf e, E.P.cellsOf e)) cs (ps.toList.map fun p => (p.1, ev st.σ p.2)) = some vs.toArray := by
        intro cs hcs
        rw [bldL_fill _ 0 vs cs hb (by simp only [List.length_map, hlen, Nat.zero_add]; exact hcs)]
        simp
      have hzr : (if len * E.P.cellsOf e = 0 then (pure #[] : Sem (Array Value)) else do pure (← zeroValue e).cells).run E.P wa = .ok (if len * E.P.cellsOf e = 0 then #[] else z.cells) wa := by
        split
        · rfl
        · simp only [Sem.run_bind, run_zero hz, Result.andThen_ok, Sem.run_pure]
      split
      · rename_i hl0
        simp only [Sem.run_bind, Sem.run_pure, Result.andThen_ok]
        rw [hfill _ (by simp)]
        simp only [newRow, Sem.run_bind, run_newObj, Result.andThen_ok, Sem.run_pure]
        rfl
      · simp only [Sem.run_bind, run_zero hz, Sem.run_pure, Result.andThen_ok]
        rw [hfill _ (by simp)]
        simp only [newRow, Sem.run_bind, run_newObj, Result.andThen_ok, Sem.run_pure]
        rfl

theorem run_bls {t : TypeId} {len : Nat} {ps : Array (Nat × Operand)} (ho : o.op = .buildSlice t len ps) (hok : okOper C.n o = true) (hI : Inv C a wa st u θ)
    (h : bif (ps.toList.all fun p => plain (ev st.σ p.2)) && Nat.beq ps.toList.length len then (match elemT E.P t with
      | none => False
      | some e => match bldL (E.P.cellsOf e) 0 (ps.toList.map fun p => (p.1, ev st.σ p.2)) with
        | some vs => bif Nat.ble vs.length 65536 && ((E.P.info? e).bind (·.zero)).isSome && !Nat.beq (E.P.cellsOf e) 0 then
            ∀ (b : Nat) (w' : World), Born u.toWorld w' b (.cells vs.toArray e (0, 0)) → K (fin o st (.slice (some ⟨b, 0, none⟩) len len)) (u.born b w') else False
        | none => False) else False) : ∃ v ob, (execOp a.eval o).run E.P wa = .ok (.value v) (wa.alloc ob) := by
  obtain ⟨hc, h⟩ := bif_elim h
  simp only [Bool.and_eq_true, beq_iff] at hc
  obtain ⟨hp, hlen⟩ := hc
  have hx : ∀ x ∈ ps.toList, okOp C.n x.2 = true := fun x hx => opd hok (by simp only [ho, Op.operands]; simp only [List.mem_toArray, List.mem_map]; exact ⟨x, hx, rfl⟩)
  unfold elemT at h
  cases hu : E.P.underlying t with
  | none => simp only [hu] at h
  | some d =>
    cases d <;> simp only [hu] at h
    rename_i e
    cases hb : bldL (E.P.cellsOf e) 0 (ps.toList.map fun p => (p.1, ev st.σ p.2)) with
    | none => simp only [hb] at h
    | some vs =>
      simp only [hb] at h
      obtain ⟨hc, h⟩ := bif_elim h
      simp only [Bool.and_eq_true, Nat.ble_eq, Bool.not_eq_true'] at hc
      obtain ⟨⟨h1, h2⟩, h3⟩ := hc
      obtain ⟨z, hz⟩ := Option.isSome_iff_exists.1 h2
      have hnz : E.P.cellsOf e ≠ 0 := fun e0 => by rw [beq_iff.2 e0] at h3; cases h3
      obtain ⟨ie, hie⟩ := cellsOf_info hnz
      have hvl := bldL_len hb
      simp only [List.length_map, hlen] at hvl
      refine ⟨.slice (some ⟨wa.heap.size, 0, none⟩) len len, .cells vs.toArray e (0, 0), ?_⟩
      have e0 := pairs_eq hI hx hp
      simp only [execOp, ho, e0, Sem.run_bind, Instr.buildSlice, run_under hu, Result.andThen_ok, run_size hie]
      rw [if_neg (by rw [← hvl]; omega)]
      have hfill : ∀ cs : Array Value, cs.size = len * E.P.cellsOf e → Instr.fill (fun i => some (i * E.P.cellsOf e, E.P.cellsOf e)) cs (ps.toList.map fun p => (p.1, ev st.σ p.2)) = some vs.toArray := by
        intro cs hcs
        rw [bldL_fill _ 0 vs cs hb (by simp only [List.length_map, hlen, Nat.zero_add]; exact hcs)]
        simp
      have hzr : (if len * E.P.cellsOf e = 0 then (pure #[] : Sem (Array Value)) else do pure (← zeroValue e).cells).run E.P wa = .ok (if len * E.P.cellsOf e = 0 then #[] else z.cells) wa := by
        split
        · rfl
        · simp only [Sem.run_bind, run_zero hz, Result.andThen_ok, Sem.run_pure]
      split
      · rename_i hl0
        simp only [Sem.run_bind, Sem.run_pure, Result.andThen_ok]
        rw [hfill _ (by simp)]
        simp only [newRow, Sem.run_bind, run_newObj, Result.andThen_ok, Sem.run_pure]
        rfl
      · simp only [Sem.run_bind, run_zero hz, Sem.run_pure, Result.andThen_ok]
        rw [hfill _ (by simp)]
        simp only [newRow, Sem.run_bind, run_newObj, Result.andThen_ok, Sem.run_pure]
        rfl

/-! ### builtins -/
theorem run_builtin {P : Program} {b : Builtin} {args : Array Operand} {ts : Array TypeId} {w : World} {s : Sem Value} {v : Value} {w' : World} (ho : o.op = .call ⟨.builtin b, args, ts⟩)
    (hb : ∀ consts, builtin b ts o.type consts (args.map a.eval) = (do pure (.value (← s)) : Sem Next)) (hs : s.run P w = .ok v w') :
    (execOp a.eval o).run P w = .ok (.value v) w' := by
  simp only [execOp, ho, resolve, Sem.run_bind, Sem.run_pure, Result.andThen_ok, invoke]
  rw [hb]
  simp only [Sem.run_bind, hs, Result.andThen_ok, Sem.run_pure]

theorem ints_eq (hI : Inv C a wa st u θ) : ∀ {xs : List Operand} {k : IntKind} {is : List Int}, (∀ x ∈ xs, okOp C.n x = true) → intsOf (ev st.σ) xs = some (k, is) → xs.map a.eval = is.map (Value.int k) ∧ is ≠ []
  | [], _, _, _, h => by simp [intsOf] at h
  | [x], k, is, hok, h => by
    simp only [intsOf] at h
    split at h
    · rename_i k' i he
      simp only [Option.some.injEq, Prod.mk.injEq] at h
      obtain ⟨rfl, rfl⟩ := h
      simp [ev_val hI (hok x (by simp)) he rfl]
    · cases h
  | x :: y :: l, k, is, hok, h => by
    simp only [intsOf] at h
    split at h
    · rename_i k1 i k2 js he hr
      simp only [Bool.cond_eq_ite] at h
      split at h
      · rename_i hk
        simp only [decide_eq_true_eq] at hk
        simp only [Option.some.injEq, Prod.mk.injEq] at h
        obtain ⟨rfl, rfl⟩ := h
        subst hk
        obtain ⟨h1, _⟩ := ints_eq hI (xs := y :: l) (fun z hz => hok z (by simp [hz])) hr
        refine ⟨?_, by simp⟩
        rw [List.map_cons, h1, ev_val hI (hok x (by simp)) he rfl]; rfl
      · cases h
    · cases h

theorem run_min {P : Program} {w : World} {k : IntKind} : ∀ (is : List Int) (i : Int), ((is.map (Value.int k)).foldlM Builtin.min2 (.int k i)).run P w = .ok (.int k (is.foldl (fun x y => if y < x then y else x) i)) w
  | [], i => by simp
  | j :: is, i => by simp only [List.map_cons, List.foldlM_cons, Builtin.min2, Sem.run_bind, Sem.run_pure, Result.andThen_ok, List.foldl_cons]; exact run_min is _

theorem run_max {P : Program} {w : World} {k : IntKind} : ∀ (is : List Int) (i : Int), ((is.map (Value.int k)).foldlM Builtin.max2 (.int k i)).run P w = .ok (.int k (is.foldl (fun x y => if y > x then y else x) i)) w
  | [], i => by simp
  | j :: is, i => by simp only [List.map_cons, List.foldlM_cons, Builtin.max2, Sem.run_bind, Sem.run_pure, Result.andThen_ok, List.foldl_cons]; exact run_max is _

theorem run_first {P : Program} {w : World} {size m c : Nat} {xb : Option Addr} {new : List Value} (h0 : m = 0 → new = []) (h1 : m ≠ 0 → ∃ b off C T f, xb = some ⟨b, off, none⟩ ∧ w.heap[b]? = some (.cells C T f) ∧ off + m * size ≤ C.size ∧ new = (C.toList.drop off).take (m * size)) :
    (Builtin.firstCells size m (.slice xb m c)).run P w = .ok new.toArray w := by
  by_cases hm : m = 0
  · subst hm
    rw [h0 rfl]
    cases xb <;> simp [Builtin.firstCells, loadCells, loadCellsFrom]
  · obtain ⟨b, off, C, T, f, rfl, hb, hl, rfl⟩ := h1 hm
    simp only [Builtin.firstCells]
    exact loadCells_run hb hl

theorem s_app {x y : Operand} {t t' e e' : TypeId} {base xb : Option Addr} {n cap m c' : Nat} (ho : o.op = .call ⟨.builtin .append, #[x, y], #[t, t']⟩) (hok : okOper C.n o = true) (hI : Inv C a wa st u θ)
    (hu : E.P.underlying t = some (.slice e)) (hu' : E.P.underlying t' = some (.slice e')) (hx : ev st.σ x = .slice base n cap) (hy : ev st.σ y = .slice xb m c')
    (h : cApp E.P e base n cap xb m u fun p q r w' => K (fin o st (.slice p q r)) w') : Snd E C fz o st θ K Q a wa := by
  have kx : okOp C.n x = true := opd hok (by simp [ho, Op.operands, Call.operands])
  have ky : okOp C.n y = true := opd hok (by simp [ho, Op.operands, Call.operands])
  have hex := ev_val hI kx hx rfl
  have hey := ev_val hI ky hy rfl
  obtain ⟨size, bytes, zero, old, new, hinfo, hn0, hn1, ho0, ho1, hcap, hby, h62, hzl, hone, hroom, hgrow⟩ := h
  cases hi : E.P.info? e with
  | none => simp [hi] at hinfo
  | some i =>
    simp only [hi, Option.map_some, Option.some.injEq, Prod.mk.injEq] at hinfo
    obtain ⟨rfl, rfl, hz⟩ := hinfo
    cases hzz : i.zero with
    | none => simp [hzz] at hz
    | some z =>
      simp only [hzz, Option.map_some, Option.some.injEq] at hz
      subst hz
      have hzr : (E.P.info? e).bind (·.zero) = some z := by simp [hi, hzz]
      have rdw : ∀ {A : Option Addr} {k : Nat} {vs : List Value}, (k * i.size ≠ 0) → (withSl A fun b o => rd u.heap b o (k * i.size) = some vs) → ∃ b off C T f, A = some ⟨b, off, none⟩ ∧ wa.heap[b]? = some (.cells C T f) ∧ off + k * i.size ≤ C.size ∧ vs = (C.toList.drop off).take (k * i.size) := by
        intro A k vs hk hw
        obtain ⟨b, off, rfl, hrd⟩ := withSl_elim hw
        obtain ⟨C, T, f, c1, c2, c3⟩ := rd_sees hI.below hrd hk
        exact ⟨b, off, C, T, f, rfl, c1, c2, c3⟩
      have rd0 : ∀ {A : Option Addr} {k : Nat} {vs : List Value}, (k * i.size = 0) → (withSl A fun b o => rd u.heap b o (k * i.size) = some vs) → vs = [] := by
        intro A k vs hk hw
        obtain ⟨b, off, rfl, hrd⟩ := withSl_elim hw
        rw [hk] at hrd
        obtain ⟨_, _, _, h | h⟩ := rd_sees0 hI.below hrd
        · exact List.eq_nil_of_length_eq_zero h.2
        · exact h.2
      have first : ∀ {A : Option Addr} {k c : Nat} {vs : List Value} (w : World), w.heap = wa.heap → (k = 0 → vs = []) → (k ≠ 0 → withSl A fun b o => rd u.heap b o (k * i.size) = some vs) → (Builtin.firstCells i.size k (.slice A k c)).run E.P w = .ok vs.toArray w := by
        intro A k c vs w hw h0 h1
        by_cases hk : k = 0
        · exact run_first h0 (fun h => absurd hk h)
        · by_cases hks : k * i.size = 0
          · have hvs := rd0 hks (h1 hk)
            subst hvs
            obtain ⟨b, off, rfl, _⟩ := withSl_elim (h1 hk)
            simp [Builtin.firstCells, loadCells, hks, loadCellsFrom]
          · exact run_first h0 (fun _ => by rw [hw]; exact rdw hks (h1 hk))
      by_cases hr : n + m ≤ cap
      · rcases hroom hr with ⟨hm, hK⟩ | ⟨hm, hst⟩
        · subst hm
          refine up_value (r := .slice base n cap) (wb := wa) ?_ (post_finP hok hI rfl hK)
          refine run_builtin (s := Builtin.append_ #[t, t'] o.type #[.slice base n cap, .slice xb 0 c']) ho (fun _ => by simp only [builtin, List.map_toArray, List.map_cons, List.map_nil, hex, hey]) ?_
          have hf := first (A := xb) (k := 0) (c := c') wa rfl hn0 (fun h => absurd rfl h)
          have hnn : new = [] := hn0 rfl
          subst hnn
          simp only [Nat.add_zero] at hr
          simp [Builtin.append_, run_under hu, run_under hu', sizeOf, typeInfo, hi, Builtin.lenOf, hr, hf, storeCells]
          cases base <;> simp
        · obtain ⟨b, off, rfl, hst⟩ := withSl_elim hst
          have hf := first (A := xb) (k := m) (c := c') wa rfl hn0 hn1
          by_cases hne : new = []
          · subst hne
            obtain ⟨cc, T, q1, q2, q3, q4⟩ := hst
            have hS : Sto u.toWorld u.toWorld b (.cells cc T (0, 0)) := ⟨rfl, rfl, rfl, Nat.le_refl _, q1, fun _ _ _ => rfl⟩
            refine up_value (r := .slice (some ⟨b, off, none⟩) (n + m) cap) (wb := wa) ?_ (post_finP hok (u' := u.sto u.toWorld) (θ := θ) hI rfl (q4 _ hS))
            refine run_builtin (s := Builtin.append_ #[t, t'] o.type #[.slice (some ⟨b, off, none⟩) n cap, .slice xb m c']) ho (fun _ => by simp only [builtin, List.map_toArray, List.map_cons, List.map_nil, hex, hey]) ?_
            simp [Builtin.append_, run_under hu, run_under hu', sizeOf, typeInfo, hi, Builtin.lenOf, hr, hf, storeCells]
          · obtain ⟨cc, T, w', c1, c2, hI', hK⟩ := pub_store hI hst hne
            refine up_value (r := .slice (some ⟨b, off, none⟩) (n + m) cap) (wb := setB wa b (.cells (wrA cc (off + n * i.size) new) T (0, 0))) ?_ (post_finP hok hI' rfl hK)
            refine run_builtin (s := Builtin.append_ #[t, t'] o.type #[.slice (some ⟨b, off, none⟩) n cap, .slice xb m c']) ho (fun _ => by simp only [builtin, List.map_toArray, List.map_cons, List.map_nil, hex, hey]) ?_
            have hsr := storeCells_run (P := E.P) (b := b) (o := off + n * i.size) (T := T) new 0 wa cc c1 (by omega) hone
            simp only [Nat.add_zero] at hsr
            simp [Builtin.append_, run_under hu, run_under hu', sizeOf, typeInfo, hi, Builtin.lenOf, hr, hf, add_addr, hsr]
      · have hlt : cap < n + m := by omega
        have hI1 := hI.drew
        have hge : n + m ≤ grownCap wa (n + m) cap e := grownCap_ge wa (n + m) cap e
        obtain ⟨w', hb, hI'⟩ := hI1.born (.cells (old ++ new ++ (Builtin.zeroCells z.cells (grownCap wa (n + m) cap e - (n + m))).toList).toArray e (0, 0))
        have hK := hgrow hlt (grownCap wa (n + m) cap e) wa.heap.size (Builtin.zeroCells z.cells (grownCap wa (n + m) cap e - (n + m))).toList w' hge (by simp only [Array.length_toList, size_zeroCells]; rw [← hzl]; simp) hb
        refine up_value (r := .slice (some ⟨wa.heap.size, 0, none⟩) (n + m) (grownCap wa (n + m) cap e)) ?_ (post_finP hok hI' rfl hK)
        refine run_builtin (s := Builtin.append_ #[t, t'] o.type #[.slice base n cap, .slice xb m c']) ho (fun _ => by simp only [builtin, List.map_toArray, List.map_cons, List.map_nil, hex, hey]) ?_
        have hfit := growslice_fits hlt hby
        have h63' : ¬ (9223372036854775807 < ((n : Int) + (m : Int))) := by omega
        have h48' : ¬ (281474976710656 < Builtin.nextslicecap (n + m) cap * i.bytes) := by omega
        have hf := first (A := xb) (k := m) (c := c') wa.drew rfl hn0 hn1
        have hfo := first (A := base) (k := n) (c := cap) wa.drew rfl ho0 ho1
        simp [Builtin.append_, run_under hu, run_under hu', sizeOf, typeInfo, zeroValue, hi, hzz, Builtin.lenOf, hr, h63', h48', Question.forced, hf, hfo, newRow, grownCap]
        congr 2
        apply Array.ext'
        simp

end
end Go.Eng

/-
  The engine: interface values, methods called through them, make of slices.
-/
namespace Go.Eng
open Go.RowKit

section
variable {E : Env} {C : Ctx} {fz : List Nat} {o : Oper} {st : St} {u : UW} {θ : Nat → Nat} {K : St → UW → Prop} {Q : Exit → Act → World → Prop} {a : Act} {wa : World}

theorem s_mki {t : TypeId} {x : Operand} (ho : o.op = .makeInterface t x) (hok : okOper C.n o = true) (hI : Inv C a wa st u θ)
    (h : bif plain (ev st.σ x) then (match pv E.P (Instr.makeInterface t (ev st.σ x)) with
      | some v => bif plain v then K (fin o st v) u else False
      | none => False) else False) : Snd E C fz o st θ K Q a wa := by
  have hx : okOp C.n x = true := opd hok (by simp [ho, Op.operands])
  obtain ⟨hp, h⟩ := bif_elim h
  cases hv : pv E.P (Instr.makeInterface t (ev st.σ x)) with
  | none => simp only [hv] at h
  | some v =>
    simp only [hv] at h
    obtain ⟨hpv, h⟩ := bif_elim h
    refine up_value (r := v) (wb := wa) ?_ (post_finP hok hI hpv h)
    simp only [execOp, ho, ev_eq hI hx hp, Sem.run_bind, pv_run hv wa]
    rfl

theorem run_askRoom (n : Nat) (P : Program) (w : World) : (askRoom n).run P w = .ok () w := by
  unfold askRoom; split <;> rfl

theorem run_asInt (k : IntKind) (i : Int) (P : Program) (w : World) : (asInt (.int k i)).run P w = .ok i w := by simp [asInt, asIntOf]

theorem zero_row (z : Array Value) (j : Nat) : (Array.range (j * z.size)).map (fun i => z[i % z.size]!) = (List.replicate j z.toList).flatten.toArray := by
  apply Array.toList_inj.1
  simp only [Array.toList_map, Array.toList_range]
  induction j with
  | zero => simp
  | succ j ih =>
    rw [Nat.succ_mul, List.range_add, List.map_append, ih, List.replicate_succ', List.flatten_append]
    congr 1
    simp only [List.map_map, List.flatten_cons, List.flatten_nil, List.append_nil]
    refine List.ext_getElem (by simp) fun i h1 h2 => ?_
    simp only [List.length_map, List.length_range] at h1
    simp [Nat.mul_add_mod_self_right, Nat.mod_eq_of_lt h1, h1]

theorem s_mks {t : TypeId} {x y : Operand} (ho : o.op = .makeSlice t x y) (hok : okOper C.n o = true) (hI : Inv C a wa st u θ)
    (h : match E.P.underlying t, ev st.σ x, ev st.σ y with
    | some (.slice e), .int _ i, .int _ j => (match (E.P.info? e).map (fun i => (i.size, i.bytes, i.zero.map fun z => z.cells.toList)) with
      | some (size, bytes, some zero) => bif Nat.beq zero.length size && !Nat.beq size 0 then
          0 ≤ i ∧ i ≤ j ∧ j < 4611686018427387904 ∧ j.toNat * bytes ≤ 140737488355328 ∧
          ∀ (b : Nat) (w' : World), Born u.toWorld w' b (.cells (List.replicate j.toNat zero).flatten.toArray e (0, 0)) → K (fin o st (.slice (some ⟨b, 0, none⟩) i.toNat j.toNat)) (u.born b w') else False
      | _ => False)
    | _, _, _ => False) : Snd E C fz o st θ K Q a wa := by
  have hx : okOp C.n x = true := opd hok (by simp [ho, Op.operands])
  have hy : okOp C.n y = true := opd hok (by simp [ho, Op.operands])
  split at h
  · rename_i e k i k' j hu ex ey
    cases hi : E.P.info? e with
    | none => simp [hi] at h
    | some inf =>
      simp only [hi, Option.map_some] at h
      cases hz : inf.zero with
      | none => simp [hz] at h
      | some z =>
        simp only [hz, Option.map_some] at h
        obtain ⟨hc, h1, h2, h3, h4, h⟩ := bif_elim h
        simp only [Bool.and_eq_true, beq_iff, Bool.not_eq_true'] at hc
        obtain ⟨hsz, hnz⟩ := hc
        have hzs : z.cells.size = inf.size := by simpa using hsz
        have hn0 : inf.size ≠ 0 := fun e0 => by rw [beq_iff.2 e0] at hnz; cases hnz
        obtain ⟨w', hb', hI'⟩ := hI.born (.cells (List.replicate j.toNat z.cells.toList).flatten.toArray e (0, 0))
        refine up_value (r := .slice (some ⟨wa.heap.size, 0, none⟩) i.toNat j.toNat) (wb := wa.alloc (.cells (List.replicate j.toNat z.cells.toList).flatten.toArray e (0, 0))) ?_ (post_finP hok hI' rfl (h _ _ hb'))
        have wi : IntKind.i64.wrap i = i := IntWalk.i64_in i (by omega)
        have wj : IntKind.i64.wrap j = j := IntWalk.i64_in j (by omega)
        have hlim : ¬ ((inf.bytes : Int) * j > 2 ^ 48) := by
          have : ((j.toNat * inf.bytes : Nat) : Int) ≤ 140737488355328 := Int.ofNat_le.2 h4
          have e1 : ((j.toNat : Nat) : Int) = j := Int.toNat_of_nonneg (by omega)
          rw [Int.natCast_mul, e1, Int.mul_comm] at this
          omega
        have hcell : E.P.cellsOf e = inf.size := by simp [Program.cellsOf, hi]
        have hzr := zero_row z.cells j.toNat
        rw [hzs] at hzr
        have hcond : ((decide (j < 0) || decide ((inf.bytes : Int) * j > 2 ^ 48)) || decide (i < 0) || decide (i > j)) = false := by
          simp only [decide_eq_false (show ¬ j < 0 by omega), decide_eq_false hlim, decide_eq_false (show ¬ i < 0 by omega), decide_eq_false (show ¬ i > j by omega), Bool.or_false]
        have hzz : (E.P.info? e).bind (·.zero) = some z := by simp [hi, hz]
        simp only [execOp, ho, ev_val hI hx ex rfl, ev_val hI hy ey rfl, Sem.run_bind, Instr.makeSlice, run_under hu, Result.andThen_ok, run_asInt, run_info hi, wi, wj]
        rw [if_neg (by rw [hcond]; simp)]
        by_cases hn : j.toNat * inf.size = 0
        · have hj : j.toNat = 0 := (Nat.mul_eq_zero.1 hn).resolve_right hn0
          simp [run_size hi, hcell, hj, newRow]
          congr 2; apply Array.ext'; simp
        · simp [run_size hi, hcell, hn, run_zero hzz, newRow, hzr, hzs]
  · exact h.elim

end
end Go.Eng

/-
  The engine, tenth part: calls; W1 is sound.
-/
namespace Go.Eng
open Go.RowKit

section
variable {E : Env} {C : Ctx} {a : Act} {wa : World} {st : St} {u : UW} {θ : Nat → Nat} {fz : List Nat} {o : Oper} {K : St → UW → Prop} {Q : Exit → Act → World → Prop}

theorem run_callFunc {P : Program} {g : FuncId} {args : Array Value} {w : World} (h : callable P g = true) : (callFunc g args).run P w = .ok (.enter g args) w := by
  unfold callable at h
  cases hf : P.funcs[g]? with
  | none => simp [hf] at h
  | some fn =>
    simp only [hf, Bool.and_eq_true, Bool.not_eq_true'] at h
    obtain ⟨h1, h2⟩ := h
    cases hb : fn.body with
    | none => simp [hb] at h2
    | some c =>
      simp only [callFunc, Sem.run_bind, run_program, Result.andThen_ok, hf, h1, hb, Bool.false_eq_true, if_false, Option.isNone_some, Sem.run_pure]

theorem exV_elim {P : Program} {t : TypeId} {F : Value → Prop} (h : exV P t F) : ∃ v, plain v = true ∧ F v := by
  unfold exV at h
  cases hk : kinds P t with
  | none => simp only [hk] at h
  | some ks =>
    simp only [hk] at h
    obtain ⟨vs, hl, hp, h⟩ := exL_elim h
    obtain ⟨_, _, h2⟩ := kinds_spec hk
    exact ⟨_, mkV_plain hp (h2.imp id fun h => by omega), h⟩

theorem exVs_elim {P : Program} : ∀ {ts : List TypeId} {F : List Value → Prop}, exVs P ts F → ∃ vs, F vs
  | [], _, h => ⟨[], h⟩
  | t :: ts, F, h => by
    obtain ⟨v, _, h⟩ := exV_elim h
    obtain ⟨vs, h⟩ := exVs_elim h
    exact ⟨_, h⟩

theorem exR_elim {P : Program} {t : TypeId} {F : Value → Prop} (h : exR P t F) : ∃ v, plain v = true ∧ F v := by
  unfold exR at h
  split at h
  · obtain ⟨vs, h⟩ := exVs_elim h
    exact ⟨_, rfl, h⟩
  · exact exV_elim h

theorem Inv.ret {F : Nat → Prop} {w' wr : World} (hI : Inv C a wa st u θ) (hF : ∀ b, F b → u.pub b) (hout : Out F u.toWorld wa w' wr) : Inv C a wr st (u.ret wa.heap.size w') θ := by
  refine hI.world hF hout.mod hout.sees hout.umod hout.hid ?_ ?_
  · intro b hb
    rcases hb with hb | ⟨_, hb⟩
    · exact Nat.lt_of_lt_of_le (hI.pubs b hb) hout.mod.size
    · exact Nat.lt_of_lt_of_le hb hout.sees.size
  · intro b hb hlt
    rcases hb with hb | ⟨hb, _⟩
    · exact hb
    · omega

theorem CallV_iff {P : Program} {f : Value} {args : List Value} {u : UW} {K : Value → UW → Prop} :
    CallV P f args u K ↔ ∃ F : Nat → Prop, (∀ b, F b → u.pub b) ∧ ValB P f args u.toWorld F fun v lo w' => K v (u.ret lo w') := by
  unfold CallV
  split
  · rename_i g first captured
    constructor
    · intro h
      obtain ⟨hc, F, hF, h⟩ := bif_elim h
      exact ⟨F, hF, fun w1 hs => ⟨hc, h w1 hs⟩⟩
    · rintro ⟨F, hF, h⟩
      have hc : callable P g = true := (h u.toWorld (Sees.refl _)).1
      rw [hc]
      exact ⟨F, hF, fun w1 hs => (h w1 hs).2⟩
  · exact Iff.rfl

theorem s_call {f : Operand} {args : Array Operand} {ts : Array TypeId} (ho : o.op = .call ⟨.value f, args, ts⟩) (hok : okOper C.n o = true) (hI : Inv C a wa st u θ)
    (h : bif args.toList.all (fun x => plain (ev st.σ x)) then
        CallV E.P (ev st.σ f) (args.toList.map (ev st.σ)) u fun v w' => exR E.P o.type fun v' => v = v' ∧ K (fin o st v') w' else False) : Snd E C fz o st θ K Q a wa := by
  obtain ⟨hp, h⟩ := bif_elim h
  have kf : okOp C.n f = true := opd hok (by simp [ho, Op.operands, Call.operands])
  have ka : ∀ x ∈ args.toList, okOp C.n x = true := fun x hx => opd hok (by simp [ho, Op.operands, Call.operands]; right; simpa using hx)
  obtain ⟨F, hF, h⟩ := CallV_iff.1 h
  have h := h wa hI.below
  have hea := arr_evs hI ka hp
  have done : ∀ (e : Ending) (wr : World), (∃ v w', e = .returned v ∧ Out F u.toWorld wa w' wr ∧ exR E.P o.type fun v' => v = v' ∧ K (fin o st v') (u.ret wa.heap.size w')) →
      match e with
      | .returned v => PostW C fz o st θ (privOp E.priv o) K (a.put o.dst v) wr
      | .panicked chain => Q (.panic chain) a wr
      | .outgrown => LetsOut Q := by
    rintro e wr ⟨v, w', rfl, hout, hK⟩
    obtain ⟨v', hpv, rfl, hK⟩ := exR_elim hK
    exact post_finP hok (hI.ret hF hout) hpv hK
  unfold VCalls at h
  split at h
  · rename_i g first captured hf
    obtain ⟨hc, h⟩ := h
    have hef := ev_val hI kf hf rfl
    have hrun : (execOp a.eval o).run E.P wa = .ok (.enter g (first.toList ++ args.toList.map (ev st.σ) ++ captured.toList).toArray) wa := by
      simp only [execOp, ho, resolve, hef, hea, Deferred.ofValue, Sem.run_bind, Sem.run_pure, Result.andThen_ok, invoke]
      rw [run_callFunc hc]
      congr 2
      apply Array.toList_inj.1
      simp
    unfold Snd
    rw [hrun]
    refine ⟨fun h => (by cases h), callsIn_wide.2 (h.mono fun e wr hpost => ?_)⟩
    have := done e wr hpost
    cases e <;> exact this
  · rename_i l first captured hf
    obtain ⟨rfl, rfl, r, hr, hlen, h⟩ := h
    have hef := ev_val hI kf hf rfl
    have hrun : (execOp a.eval o).run E.P wa = .ok (.round l r.fn ((r.params.zip (args.toList.map (ev st.σ)).toArray).foldl (fun t (p, v) => t.setIfInBounds p v) r.tmps) r.assign r.body) wa := by
      simp only [execOp, ho, resolve, hef, hea, Deferred.ofValue, Sem.run_bind, Sem.run_pure, Result.andThen_ok, invoke]
      rw [show (#[] ++ (args.toList.map (ev st.σ)).toArray) = (args.toList.map (ev st.σ)).toArray by simp]
      exact run_yield hr (by simpa using hlen)
    unfold Snd
    rw [hrun]
    refine ⟨fun h => (by cases h), h.mono fun e wr hpost => ?_⟩
    have := done e wr hpost
    cases e <;> exact this
  · exact h.elim

theorem s_inv {x : Operand} {name : String} {args : Array Operand} {ts : Array TypeId} (ho : o.op = .call ⟨.invoke x name, args, ts⟩) (hok : okOper C.n o = true) (hI : Inv C a wa st u θ)
    (h : bif args.toList.all (fun x => plain (ev st.σ x)) then (match ev st.σ x with
        | .iface t r => (match pv E.P (method (E.P.types.size + Made.depth) t r name) with
          | some (g, r') => bif callable E.P g then CallF E.P g (r' :: args.toList.map (ev st.σ)).toArray u fun v w' => exR E.P o.type fun v' => v = v' ∧ K (fin o st v') w' else False
          | none => False)
        | _ => False) else False) : Snd E C fz o st θ K Q a wa := by
  obtain ⟨hp, h⟩ := bif_elim h
  have kx : okOp C.n x = true := opd hok (by simp [ho, Op.operands, Call.operands])
  have ka : ∀ x ∈ args.toList, okOp C.n x = true := fun x hx => opd hok (by simp [ho, Op.operands, Call.operands]; right; simpa using hx)
  split at h
  · rename_i t r hf
    cases hm : pv E.P (method (E.P.types.size + Made.depth) t r name) with
    | none => simp only [hm] at h
    | some gr =>
      obtain ⟨g, r'⟩ := gr
      simp only [hm] at h
      obtain ⟨hc, F, hF, h⟩ := bif_elim h
      have hef := ev_val hI kx hf rfl
      have hea := arr_evs hI ka hp
      have hrun : (execOp a.eval o).run E.P wa = .ok (.enter g (r' :: args.toList.map (ev st.σ)).toArray) wa := by
        simp only [execOp, ho, resolve, hef, hea, Sem.run_bind, Sem.run_pure, Result.andThen_ok, invoke]
        simp [callMethod, pv_run hm wa, run_callFunc hc]
        exact List.take_of_length_le (by simp)
      unfold Snd
      rw [hrun]
      refine ⟨fun h => (by cases h), callsIn_wide.2 ((h wa hI.below).mono fun e wr hpost => ?_)⟩
      obtain ⟨v, w', rfl, hout, hK⟩ := hpost
      obtain ⟨v', hpv, rfl, hK⟩ := exR_elim hK
      exact post_finP hok (hI.ret hF hout) hpv hK
  · exact h.elim

theorem s_bi {b : Builtin} {args : Array Operand} {ts : Array TypeId} (ho : o.op = .call ⟨.builtin b, args, ts⟩) (hok : okOper C.n o = true) (hI : Inv C a wa st u θ)
    (h : W1b E o st u b args.toList ts.toList K) : Snd E C fz o st θ K Q a wa := by
  have ka : ∀ x ∈ args.toList, okOp C.n x = true := fun x hx => opd hok (by simp [ho, Op.operands, Call.operands]; simpa using hx)
  obtain ⟨args⟩ := args
  obtain ⟨ts⟩ := ts
  simp only at h ka
  unfold W1b at h
  split at h
  · rename_i x t
    have kx := ka x (by simp)
    split at h
    · rename_i n c hu he
      refine up_value (r := .int .i64 n) (wb := wa) ?_ (post_finP hok hI rfl h)
      refine run_builtin (s := Builtin.len_ #[t] o.type #[a.eval x]) ho (fun _ => by simp [builtin]) ?_
      simp [Builtin.len_, run_under hu, ev_val hI kx he rfl, goInt]
    · rename_i s hu he
      refine up_value (r := .int .i64 s.size) (wb := wa) ?_ (post_finP hok hI rfl h)
      refine run_builtin (s := Builtin.len_ #[t] o.type #[a.eval x]) ho (fun _ => by simp [builtin]) ?_
      simp [Builtin.len_, run_under hu, ev_val hI kx he rfl, goInt]
    · rename_i n e hu
      obtain ⟨_, h⟩ := bif_elim h
      refine up_value (r := .int .i64 n) (wb := wa) ?_ (post_finP hok hI rfl h)
      refine run_builtin (s := Builtin.len_ #[t] o.type #[a.eval x]) ho (fun _ => by simp [builtin]) ?_
      simp [Builtin.len_, run_under hu, goInt]
    · exact h.elim
  · rename_i x y t t'
    split at h
    · rename_i e e' base n cap xb m c hu hu' hx hy
      exact s_app ho hok hI hu hu' hx hy h
    · exact h.elim
  · split at h
    · rename_i k i is hi
      refine up_value (r := .int k (is.foldl (fun x y => if y < x then y else x) i)) (wb := wa) ?_ (post_finP hok hI rfl h)
      obtain ⟨he, _⟩ := ints_eq hI ka hi
      refine run_builtin (s := (is.map (Value.int k)).foldlM Builtin.min2 (.int k i)) ho (fun _ => ?_) (run_min is i)
      simp only [builtin, Builtin.min_, List.map_toArray, he, List.map_cons]
    · exact h.elim
  · split at h
    · rename_i k i is hi
      refine up_value (r := .int k (is.foldl (fun x y => if y > x then y else x) i)) (wb := wa) ?_ (post_finP hok hI rfl h)
      obtain ⟨he, _⟩ := ints_eq hI ka hi
      refine run_builtin (s := (is.map (Value.int k)).foldlM Builtin.max2 (.int k i)) ho (fun _ => ?_) (run_max is i)
      simp only [builtin, Builtin.max_, List.map_toArray, he, List.map_cons]
    · exact h.elim
  · exact h.elim

theorem W1_sound (hok : okOper C.n o = true) (hI : Inv C a wa st u θ) (h : W1 E fz o st u K) : Snd E C fz o st θ K Q a wa := by
  cases ho : o.op with
  | move x => simp only [W1, ho] at h; exact s_move (.inl ho) hok hI h
  | assign x => simp only [W1, ho] at h; exact s_move (.inr ho) hok hI h
  | pick c x y =>
    simp only [W1, ho] at h
    split at h
    · rename_i t hc; exact s_pick ho hok hI hc h
    · exact h.elim
  | alloc t =>
    simp only [W1, ho] at h
    cases hz : (E.P.info? t).bind (·.zero) with
    | none => simp only [hz] at h
    | some z =>
      simp only [hz] at h
      have hrun : (execOp a.eval o).run E.P wa = .ok (.value (.pointer (some ⟨wa.heap.size, 0, none⟩))) (wa.alloc (.cells z.cells t (0, 0))) := by
        simp only [execOp, ho, Sem.run_bind, run_alloc hz]; rfl
      cases hd : o.dst with
      | none => simp only [hd] at h
      | some k =>
        simp only [hd] at h
        cases hm : memN E.priv k with
        | true => simp only [hm, cond_true] at h; exact s_newBox (by simp [privOp, ho, hd, hm]) hok hI hd hrun h
        | false => simp only [hm, cond_false] at h; exact s_newPub hok hI hrun h
  | box t x =>
    simp only [W1, ho] at h
    obtain ⟨hp, h⟩ := bif_elim h
    have kx : okOp C.n x = true := opd hok (by simp [ho, Op.operands])
    have hrun : (execOp a.eval o).run E.P wa = .ok (.value (.pointer (some ⟨wa.heap.size, 0, none⟩))) (wa.alloc (.cells (ev st.σ x).cells t (0, 0))) := by
      simp only [execOp, ho, Sem.run_bind, run_box, ev_eq hI kx hp]; rfl
    cases hd : o.dst with
    | none => simp only [hd] at h
    | some k =>
      simp only [hd] at h
      cases hm : memN E.priv k with
      | true => simp only [hm, cond_true] at h; exact s_newBox (by simp [privOp, ho, hd, hm]) hok hI hd hrun h
      | false => simp only [hm, cond_false] at h; exact s_newPub hok hI hrun h
  | build t ps => simp only [W1, ho] at h; exact s_bld ho hok hI h
  | buildSlice t len ps => simp only [W1, ho] at h; exact s_bls ho hok hI h
  | load t x =>
    simp only [W1, ho] at h
    cases hk : kinds E.P t with
    | none => simp only [hk] at h
    | some ks => simp only [hk] at h; exact s_load ho hok hI hk h
  | store t x y => simp only [W1, ho] at h; exact s_store ho hok hI h
  | nilCheck x => simp only [W1, ho] at h; exact s_nil ho hok hI h
  | binOp op t x y t' => simp only [W1, ho] at h; exact s_bin ho hok hI h
  | unOp op t x => simp only [W1, ho] at h; exact s_un h ho hok hI
  | convert s d x => simp only [W1, ho] at h; exact s_conv ho hok hI h
  | makeInterface t x => simp only [W1, ho] at h; exact s_mki ho hok hI h
  | makeSlice t x y => simp only [W1, ho] at h; exact s_mks ho hok hI h
  | makeFunc fn p q => simp only [W1, ho] at h; exact s_mkf ho hok hI h
  | slice t x lo hi mx => simp only [W1, ho] at h; exact s_slice h ho hok hI
  | fieldAddr t x f =>
    simp only [W1, ho] at h
    cases hd : fOff E.P t f with
    | none => simp only [hd] at h
    | some d => simp only [hd] at h; exact s_fa ho hok hI hd h
  | field t x f => simp only [W1, ho] at h; exact s_fld ho hok hI h
  | indexAddr t x i => simp only [W1, ho] at h; exact s_ia ho hok hI h
  | index t x i => simp only [W1, ho] at h; exact s_idx ho hok hI h
  | extract x i => simp only [W1, ho] at h; exact s_ext ho hok hI h
  | call c =>
    simp only [W1, ho] at h
    obtain ⟨callee, args, ts⟩ := c
    cases callee with
    | builtin b => simp only at h; exact s_bi ho hok hI h
    | value f => simp only at h; exact s_call ho hok hI h
    | invoke r m => simp only at h; exact s_inv ho hok hI h
  | _ => simp only [W1, ho] at h

end
end Go.Eng

/-
  The engine, eleventh part: what is carried over a join or a loop's head.
-/
namespace Go.Eng
open Go.RowKit

/-- Part of the way from the state ahead of a piece of code (st) to what is carried behind it (out of st1). -/
structure Mx (n : Nat) (fz ws : List Nat) (pend : Nat → Prop) (st st1 s : St) : Prop where
  slot : ∀ i, i < n → s.σ i = poison ∨ s.σ i = st1.σ i
  dD : ∀ k m, (k, m) ∈ s.D → (k, m) ∈ st1.D ∧ (¬ pend k → ∀ j, j < m → s.σ (gx k j) = poison ∨ s.σ (gx k j) = st1.σ (gx k j))
  fk : ∀ i, i < n → ∀ k o, s.σ i = fake k o → ∃ m, (k, m) ∈ s.D
  keep : ∀ i, i < n → i ∉ ws → s.σ i = st.σ i
  Dsub : ∀ x, x ∈ st.D → x ∈ s.D
  frz : ∀ k, k ∈ fz → ∀ m, (k, m) ∈ st.D → ∀ j, j < m → s.σ (gx k j) = st.σ (gx k j)

def boxIn (l : Live) (k : Nat) : Prop := ∃ ks, (k, Kd.box ks) ∈ l

theorem pois_ghost (σ : Fr) (ws : List Nat) (k j : Nat) : pois σ ws (gx k j) = σ (gx k j) := by
  have : Nat.blt (gx k j) 65536 = false := by
    cases h : Nat.blt (gx k j) 65536 with
    | false => rfl
    | true => have := blt_iff.1 h; have := gx_ge k j; omega
  simp only [pois, this, Bool.false_and, cond_false]

open Classical in
theorem pois_slot (σ : Fr) (ws : List Nat) (i : Nat) (hi : i < 65536) : pois σ ws i = if i ∈ ws then poison else σ i := by
  have e1 : Nat.blt i 65536 = true := blt_iff.2 hi
  by_cases hw : i ∈ ws
  · simp only [pois, e1, memN_iff.2 hw, Bool.and_true, cond_true, if_pos hw]
  · have : memN ws i = false := by cases hm : memN ws i with | false => rfl | true => exact absurd (memN_iff.1 hm) hw
    simp only [pois, this, Bool.and_false, cond_false, if_neg hw]

open Classical in
theorem scrapG_slot : ∀ (l : List (Nat × Nat)) (σ : Fr) (i : Nat), i < 65536 → scrapG σ l i = if (∃ m, (i, m) ∈ l) then fake i 0 else σ i
  | [], σ, i, _ => by simp [scrapG]
  | (k, m) :: l, σ, i, hi => by
    simp only [scrapG]
    rw [scrapG_slot l _ i hi]
    by_cases h : ∃ m, (i, m) ∈ l
    · rw [if_pos h, if_pos (by obtain ⟨m', h⟩ := h; exact ⟨m', by simp [h]⟩)]
    · rw [if_neg h, wrG_slot _ _ _ hi]
      by_cases e : i = k
      · subst e; rw [upd_same, if_pos ⟨m, by simp⟩]
      · rw [upd_ne _ _ e, if_neg]
        rintro ⟨m', hm⟩
        simp only [List.mem_cons, Prod.mk.injEq] at hm
        rcases hm with ⟨e', _⟩ | hm
        · exact e e'
        · exact h ⟨m', hm⟩

theorem scrapG_ghost : ∀ (l : List (Nat × Nat)) (σ : Fr) (k j : Nat), j < 65536 → k < 65536 → (∀ x ∈ l, x.1 < 65536 ∧ x.2 ≤ 65536) →
    (scrapG σ l (gx k j) = poison ∧ ∃ m, (k, m) ∈ l) ∨ scrapG σ l (gx k j) = σ (gx k j)
  | [], σ, k, j, _, _, _ => .inr rfl
  | (k', m) :: l, σ, k, j, hj, hk, hl => by
    simp only [scrapG]
    have hb := hl (k', m) (by simp)
    rcases scrapG_ghost l (wrG (upd σ k' (fake k' 0)) k' 0 (List.replicate m poison)) k j hj hk (fun x hx => hl x (by simp [hx])) with ⟨h, m', hm'⟩ | h
    · exact .inl ⟨h, m', by simp [hm']⟩
    · rw [h]
      by_cases e : k = k'
      · subst e
        by_cases hjm : j < m
        · have := wrG_at (σ := upd σ k (fake k 0)) (k := k) (List.replicate m poison) 0 j (by simpa using hjm) (by simpa using hb.2)
          rw [Nat.zero_add] at this
          rw [this]
          refine .inl ⟨?_, m, by simp⟩
          simp [List.getD_eq_getElem?_getD, hjm]
        · right
          rw [wrG_other, upd_ne]
          · have := gx_ge k j; omega
          · intro i _ hi e
            have := (gx_inj hj (by simp at hi; omega) e).2
            simp at hi; omega
      · right
        rw [wrG_other, upd_ne]
        · have := gx_ge k j; omega
        · intro i _ hi e'
          exact e (gx_inj hj (by simp at hi; omega) e').1

theorem scrapG_ghost_in : ∀ (l : List (Nat × Nat)) (σ : Fr) (k m j : Nat), (k, m) ∈ l → j < m → (∀ x ∈ l, x.1 < 65536 ∧ x.2 ≤ 65536) → scrapG σ l (gx k j) = poison
  | [], _, _, _, _, h, _, _ => by simp at h
  | (k', m') :: l, σ, k, m, j, h, hj, hl => by
    simp only [scrapG]
    by_cases hin : ∃ m'', (k, m'') ∈ l ∧ j < m''
    · obtain ⟨m'', hm, hj'⟩ := hin
      exact scrapG_ghost_in l _ k m'' j hm hj' (fun x hx => hl x (by simp [hx]))
    · simp only [List.mem_cons, Prod.mk.injEq] at h
      rcases h with ⟨rfl, rfl⟩ | h
      · have hb := hl (k, m) (by simp)
        rcases scrapG_ghost l (wrG (upd σ k (fake k 0)) k 0 (List.replicate m poison)) k j (by omega) hb.1 (fun x hx => hl x (by simp [hx])) with ⟨h, _⟩ | h
        · exact h
        · rw [h]
          have := wrG_at (σ := upd σ k (fake k 0)) (k := k) (List.replicate m poison) 0 j (by simpa using hj) (by simpa using hb.2)
          rw [Nat.zero_add] at this
          rw [this]
          simp [List.getD_eq_getElem?_getD, hj]
      · exact absurd ⟨m, h, hj⟩ hin

theorem scrapOk_spec {st : St} : ∀ {l : List (Nat × Nat)}, scrapOk st l = true → ∀ k m, (k, m) ∈ l → (k, m) ∈ st.D ∧ st.σ k = fake k 0
  | [], _, _, _, h => by simp at h
  | (k', m') :: l, h, k, m, hm => by
    simp only [scrapOk, Bool.and_eq_true, hasBox_iff] at h
    simp only [List.mem_cons, Prod.mk.injEq] at hm
    rcases hm with ⟨rfl, rfl⟩ | hm
    · refine ⟨h.1.1, ?_⟩
      have := h.1.2
      unfold isFake at this
      split at this
      · rename_i k2 o he
        simp only [Bool.and_eq_true, beq_iff] at this
        obtain ⟨rfl, rfl⟩ := this
        exact he
      · cases this
    · exact scrapOk_spec h.2 k m hm

theorem liveOk_spec {fz : List Nat} {D : List (Nat × Nat)} {c : Cut} (h : liveOk fz D c = true) :
    (∀ t ks, (t, Kd.box ks) ∈ c.live → t ∉ fz ∧ t < 65536 ∧ ks.length ≤ 65536) ∧ (∀ x ∈ c.live, x.1 < 65536) ∧ (∀ k m, (k, m) ∈ c.scrap → k ∉ fz ∧ k < 65536 ∧ (k, m) ∈ D) := by
  simp only [liveOk, Bool.and_eq_true, List.all_eq_true] at h
  obtain ⟨h1, h2⟩ := h
  refine ⟨fun t ks ht => ?_, fun x hx => ?_, fun k m hk => ?_⟩
  · have := h1 _ ht
    simp only [Bool.and_eq_true, Bool.not_eq_true', blt_iff, Nat.ble_eq] at this
    exact ⟨fun hf => (by rw [memN_iff.2 hf] at this; cases this.1.1), this.1.2, this.2⟩
  · obtain ⟨t, kd⟩ := x
    have := h1 _ hx
    cases kd <;> simp only [Bool.and_eq_true, blt_iff] at this
    · exact this.1
    · exact this.1
    · exact this.1.2
  · obtain ⟨⟨h3, h4⟩, h5⟩ := h2 _ hk
    exact ⟨fun hf => (by rw [memN_iff.2 hf] at h3; cases h3), blt_iff.1 h4, hasBox_iff.1 h5⟩

theorem mem_freeze {fz : List Nat} {D : List (Nat × Nat)} {c : Cut} {k m : Nat} (hk : (k, m) ∈ D) (h1 : ¬ boxIn c.live k) (h2 : ∀ m, (k, m) ∉ c.scrap) : k ∈ freeze fz D c := by
  unfold freeze
  rw [List.mem_append]
  right
  rw [List.mem_filter, List.mem_map]
  refine ⟨⟨_, hk, rfl⟩, ?_⟩
  simp only [Bool.not_eq_true', cutBox, Bool.or_eq_false_iff, List.any_eq_false]
  refine ⟨fun x hx => ?_, fun x hx => ?_⟩
  · obtain ⟨t, kd⟩ := x
    cases kd <;> simp only [Bool.false_eq_true, not_false_eq_true, beq_iff]
    rintro rfl
    exact h1 ⟨_, hx⟩
  · obtain ⟨t, m'⟩ := x
    simp only [beq_iff]
    rintro rfl
    exact h2 _ hx

section
variable {C : Ctx} {a a1 : Act} {wa wa1 : World} {st st1 : St} {u u1 : UW} {θ θ1 : Nat → Nat} {fz ws : List Nat} {c : Cut}

open Classical in
theorem Mx.base (hI : Inv C a wa st u θ) (hP : Pres C.n (freeze fz st.D c) ws st st1) (hl : liveOk fz st.D c = true) (hs : scrapOk st1 c.scrap = true) :
    Mx C.n fz ws (boxIn c.live) st st1 { st with σ := scrapG (pois st.σ ws) c.scrap } := by
  obtain ⟨l1, l2, l3⟩ := liveOk_spec hl
  have hsp := scrapOk_spec hs
  have hn := hI.n_le
  have hb : ∀ x ∈ c.scrap, x.1 < 65536 ∧ x.2 ≤ 65536 := fun x hx => ⟨(l3 x.1 x.2 hx).2.1, (hI.boxes x.1 x.2 (l3 x.1 x.2 hx).2.2).1⟩
  have slot : ∀ i, i < C.n → scrapG (pois st.σ ws) c.scrap i = if (∃ m, (i, m) ∈ c.scrap) then fake i 0 else if i ∈ ws then poison else st.σ i := by
    intro i hi
    rw [scrapG_slot _ _ _ (by omega)]
    by_cases h : ∃ m, (i, m) ∈ c.scrap
    · rw [if_pos h, if_pos h]
    · rw [if_neg h, if_neg h, pois_slot _ _ _ (by omega)]
  refine ⟨?_, ?_, ?_, ?_, fun x hx => hx, ?_⟩
  · intro i hi
    simp only
    rw [slot i hi]
    split
    · rename_i h; obtain ⟨m, h⟩ := h; exact .inr (hsp i m h).2.symm
    · split
      · exact .inl rfl
      · rename_i hw; exact .inr (hP.slot i hi hw).symm
  · intro k m hk
    refine ⟨hP.D _ hk, fun hp j hj => ?_⟩
    have hm := (hI.boxes k m hk).1
    have hgx : (pois st.σ ws) (gx k j) = st.σ (gx k j) := pois_ghost _ _ _ _
    by_cases hsc : ∃ m', (k, m') ∈ c.scrap
    · obtain ⟨m', hsc⟩ := hsc
      have hD := (l3 k m' hsc).2.2
      obtain rfl : m' = m := (hI.inj _ _ _ _ hD hk rfl).2
      exact .inl (scrapG_ghost_in _ _ k m' j hsc hj hb)
    · right
      have h1 := hP.fz k (mem_freeze hk hp (fun m hm => hsc ⟨m, hm⟩)) m hk j hj
      simp only
      by_cases hk6 : k < 65536
      · rcases scrapG_ghost c.scrap (pois st.σ ws) k j (by omega) hk6 hb with ⟨_, h⟩ | h
        · exact absurd h hsc
        · rw [h, hgx, h1]
      · have key : ∀ (l : List (Nat × Nat)) (σ : Fr), (∀ x ∈ l, x.1 < 65536 ∧ x.2 ≤ 65536) → scrapG σ l (gx k j) = σ (gx k j) := by
          intro l
          induction l with
          | nil => intro σ _; rfl
          | cons x l ih =>
            intro σ hx
            obtain ⟨k', m'⟩ := x
            have hx1 := hx (k', m') (by simp)
            simp only [scrapG]
            rw [ih _ (fun y hy => hx y (by simp [hy])), wrG_other, upd_ne]
            · have := gx_ge k j; have := hx1.1; omega
            · intro i _ hi e
              have := (gx_inj (by omega) (by simp at hi; have := hx1.2; omega) e).1
              have := hx1.1; omega
        rw [key _ _ hb, hgx, h1]
  · intro i hi k o e
    simp only at e
    rw [slot i hi] at e
    split at e
    · rename_i h
      obtain ⟨m, h⟩ := h
      simp only [Value.complex.injEq, true_and] at e
      exact ⟨m, by rw [← e.1]; exact (l3 i m h).2.2⟩
    · split at e
      · cases e
      · exact hI.fakes i hi k o e
  · intro i hi hw
    simp only
    rw [slot i hi]
    split
    · rename_i h; obtain ⟨m, h⟩ := h
      rw [← hP.slot i hi hw]; exact (hsp i m h).2.symm
    · rfl
  · intro k hk m hm j hj
    have hmm := (hI.boxes k m hm).1
    have hgx : (pois st.σ ws) (gx k j) = st.σ (gx k j) := pois_ghost _ _ _ _
    have key : ∀ (l : List (Nat × Nat)) (σ : Fr), (∀ x ∈ l, x.1 ≠ k ∧ x.1 < 65536 ∧ x.2 ≤ 65536) → scrapG σ l (gx k j) = σ (gx k j) := by
      intro l
      induction l with
      | nil => intro σ _; rfl
      | cons x l ih =>
        intro σ hx
        obtain ⟨k', m'⟩ := x
        have hx1 := hx (k', m') (by simp)
        simp only [scrapG]
        rw [ih _ (fun y hy => hx y (by simp [hy])), wrG_other, upd_ne]
        · have := gx_ge k j; have := hx1.2.1; omega
        · intro i _ hi e
          exact hx1.1 (gx_inj (by omega) (by simp at hi; have := hx1.2.2; omega) e).1.symm
    simp only
    rw [key _ _ (fun x hx => ⟨fun e => (l3 x.1 x.2 hx).1 (e ▸ hk), hb x hx⟩), hgx]

/-- One thing that is carried. -/
theorem Mx.set {s : St} {x : Nat × Kd} {l : Live} {v : x.2.T} (h : Mx C.n fz ws (boxIn (x :: l)) st st1 s) (hI1 : Inv C a1 wa1 st1 u1 θ1) (hg : getD1 st1 x = some v) (hx : x.1 < 65536) (hfz : ∀ ks, x.2 = .box ks → x.1 ∉ fz)
    (hI : Inv C a wa st u θ) (hP : Pres C.n (freeze fz st.D c) ws st st1) :
    Mx C.n fz ws (boxIn l) st st1 (setD1 s x v) := by
  obtain ⟨t, kd⟩ := x
  have hn := hI1.n_le
  have plainCase : ∀ (w : Value), plain w = true → st1.σ t = w → (∀ k, boxIn ((t, kd) :: l) k → boxIn l k) → Mx C.n fz ws (boxIn l) st st1 { s with σ := upd s.σ t w } := by
    intro w hp hw hbx
    refine ⟨?_, ?_, ?_, ?_, h.Dsub, ?_⟩
    · intro i hi
      simp only
      by_cases e : i = t
      · subst e; rw [upd_same]; exact .inr hw.symm
      · rw [upd_ne _ _ e]; exact h.slot i hi
    · intro k m hk
      refine ⟨(h.dD k m hk).1, fun hp' j hj => ?_⟩
      simp only
      have := gx_ge k j
      rw [upd_ne _ _ (by simp only at hx; omega)]
      exact (h.dD k m hk).2 (fun hb => hp' (hbx k hb)) j hj
    · intro i hi k o e
      simp only at e
      by_cases e' : i = t
      · subst e'; rw [upd_same] at e; exact absurd e (not_fake hp k o)
      · rw [upd_ne _ _ e'] at e; exact h.fk i hi k o e
    · intro i hi hw'
      simp only
      by_cases e : i = t
      · subst e; rw [upd_same, ← hw]; exact hP.slot i hi hw'
      · rw [upd_ne _ _ e]; exact h.keep i hi hw'
    · intro k hk m hm j hj
      simp only
      have := gx_ge k j
      rw [upd_ne _ _ (by simp only at hx; omega)]
      exact h.frz k hk m hm j hj
  cases kd with
  | one k =>
    simp only [getD1] at hg
    exact plainCase _ (K1.plain_v k v) (K1.get_v hg) (by rintro k' ⟨ks, hk⟩; simp only [List.mem_cons, Prod.mk.injEq, reduceCtorEq, and_false, false_or] at hk; exact ⟨ks, hk⟩)
  | agg ks =>
    simp only [getD1] at hg
    split at hg
    · rename_i arr he
      refine plainCase _ rfl ?_ (by rintro k' ⟨ks, hk⟩; simp only [List.mem_cons, Prod.mk.injEq, reduceCtorEq, and_false, false_or] at hk; exact ⟨ks, hk⟩)
      rw [he]
      have := TLget_v hg
      congr 1
      apply Array.toList_inj.1
      simpa using this
    · cases hg
  | box ks =>
    simp only [getD1] at hg
    split at hg
    · rename_i k o he
      simp only [Bool.cond_eq_ite] at hg
      split at hg
      · rename_i hc
        simp only [Bool.and_eq_true, beq_iff, hasBox_iff] at hc
        obtain ⟨⟨rfl, rfl⟩, hD⟩ := hc
        have hlist := TLget_v hg
        have hlen : (TLv ks v).length = ks.length := TLv_length ks v
        have hm65 := (hI1.boxes k ks.length hD).1
        have hat : ∀ (σ : Fr) (j : Nat), j < ks.length → wrG σ k 0 (TLv ks v) (gx k j) = st1.σ (gx k j) := by
          intro σ j hj
          have h1 := wrG_at (σ := σ) (k := k) (TLv ks v) 0 j (by omega) (by omega)
          rw [Nat.zero_add] at h1
          rw [h1, List.getD_eq_getElem?_getD, ← hlist, rdG_getElem? _ _ _ _ _ hj]
          simp
        have hoth : ∀ (σ : Fr) (k' j : Nat), k' ≠ k → j < 65536 → wrG σ k 0 (TLv ks v) (gx k' j) = σ (gx k' j) := by
          intro σ k' j hne hj
          rw [wrG_other]
          intro i _ hi e
          exact hne (gx_inj hj (by omega) e).1
        have hDs : ∀ y, y ∈ (setD1 s (k, .box ks) v).D ↔ y ∈ s.D ∨ y = (k, ks.length) := by
          intro y
          simp only [setD1, Bool.cond_eq_ite, hasBox_iff]
          split
          · rename_i hin
            exact ⟨fun h => .inl h, fun h => h.elim id fun e => e ▸ hin⟩
          · simp only [List.mem_cons]; exact ⟨fun h => h.symm, fun h => h.symm⟩
        simp only at hx
        refine ⟨?_, ?_, ?_, ?_, ?_, ?_⟩
        · intro i hi
          simp only [setD1]
          rw [wrG_slot _ _ _ (by omega)]
          by_cases e : i = k
          · subst e; rw [upd_same]; exact .inr he.symm
          · rw [upd_ne _ _ e]; exact h.slot i hi
        · intro k' m hk
          rw [hDs] at hk
          rcases hk with hk | hk
          · refine ⟨(h.dD k' m hk).1, fun hp j hj => ?_⟩
            have hm6 := (hI1.boxes k' m (h.dD k' m hk).1).1
            simp only [setD1]
            by_cases e : k' = k
            · subst e
              obtain rfl : m = ks.length := (hI1.inj _ _ _ _ (h.dD k' m hk).1 hD rfl).2
              exact .inr (hat _ j hj)
            · have := gx_ge k' j
              rw [hoth _ _ _ e (by omega), upd_ne _ _ (by omega)]
              refine (h.dD k' m hk).2 (fun hb => hp ?_) j hj
              obtain ⟨ks', hb⟩ := hb
              simp only [List.mem_cons, Prod.mk.injEq] at hb
              rcases hb with ⟨e', _⟩ | hb
              · exact absurd e' e
              · exact ⟨ks', hb⟩
          · simp only [Prod.mk.injEq] at hk
            obtain ⟨rfl, rfl⟩ := hk
            exact ⟨hD, fun _ j hj => .inr (by simp only [setD1]; exact hat _ j hj)⟩
        · intro i hi k' o e
          simp only [setD1] at e
          rw [wrG_slot _ _ _ (by omega)] at e
          by_cases e' : i = k
          · subst e'; rw [upd_same] at e
            simp only [Value.complex.injEq, true_and] at e
            exact ⟨ks.length, (hDs _).2 (.inr (by rw [e.1]))⟩
          · rw [upd_ne _ _ e'] at e
            obtain ⟨m, hm⟩ := h.fk i hi k' o e
            exact ⟨m, (hDs _).2 (.inl hm)⟩
        · intro i hi hw
          simp only [setD1]
          rw [wrG_slot _ _ _ (by omega)]
          by_cases e : i = k
          · subst e; rw [upd_same, ← hP.slot i hi hw]; exact he.symm
          · rw [upd_ne _ _ e]; exact h.keep i hi hw
        · intro y hy
          exact (hDs y).2 (.inl (h.Dsub y hy))
        · intro k' hk' m hm j hj
          have hne : k' ≠ k := fun e => hfz ks rfl (e ▸ hk')
          have hm6 := (hI.boxes k' m hm).1
          have := gx_ge k' j
          simp only [setD1]
          rw [hoth _ _ _ hne (by omega), upd_ne _ _ (by omega)]
          exact h.frz k' hk' m hm j hj
      · cases hg
    · cases hg

theorem Mx.sets : ∀ {l : Live} {s : St} {v : Tup l}, Mx C.n fz ws (boxIn l) st st1 s → Inv C a1 wa1 st1 u1 θ1 → getLive st1 l = some v → (∀ x ∈ l, x.1 < 65536) → (∀ t ks, (t, Kd.box ks) ∈ l → t ∉ fz) →
    Inv C a wa st u θ → Pres C.n (freeze fz st.D c) ws st st1 → Mx C.n fz ws (boxIn []) st st1 (setLive s l v)
  | [], s, v, h, _, _, _, _, _, _ => h
  | [x], s, v, h, hI1, hg, hx, hf, hI, hP => by
    simp only [getLive] at hg
    exact h.set (l := []) hI1 hg (hx x (by simp)) (fun ks e => hf x.1 ks (by rw [← e]; simp)) hI hP
  | x :: y :: l, s, v, h, hI1, hg, hx, hf, hI, hP => by
    simp only [getLive] at hg
    split at hg
    · rename_i p q hp hq
      simp only [Option.some.injEq] at hg
      subst hg
      have h1 := h.set (l := y :: l) hI1 hp (hx x (by simp)) (fun ks e => hf x.1 ks (by rw [← e]; simp)) hI hP
      exact Mx.sets (l := y :: l) h1 hI1 hq (fun z hz => hx z (by simp [hz])) (fun t ks hz => hf t ks (by simp [hz])) hI hP
    · cases hg

/-- The state behind a join: it knows less than the state out of which it was taken; it goes on from the state ahead. -/
theorem mix_ok {v : Tup c.live} (hI : Inv C a wa st u θ) (hI1 : Inv C a1 wa1 st1 u1 θ1) (hP : Pres C.n (freeze fz st.D c) ws st st1) (hl : liveOk fz st.D c = true) (hs : scrapOk st1 c.scrap = true)
    (hg : getLive st1 c.live = some v) : Inv C a1 wa1 (mix st ws c v) u1 θ1 ∧ Pres C.n fz ws st (mix st ws c v) := by
  obtain ⟨l1, l2, l3⟩ := liveOk_spec hl
  have h := Mx.sets (Mx.base hI hP hl hs) hI1 hg l2 (fun t ks ht => (l1 t ks ht).1) hI hP
  refine ⟨hI1.weak ⟨h.slot, fun k m hk => ⟨(h.dD k m hk).1, (h.dD k m hk).2 (by rintro ⟨ks, hk⟩; simp at hk)⟩, fun i hi k o e _ => h.fk i hi k o e⟩, ⟨h.keep, h.Dsub, h.frz⟩⟩

theorem setD1_ghost {s : St} {x : Nat × Kd} {v : x.2.T} {k j : Nat} (hk : ∀ ks, x ≠ (k, .box ks)) (hj : j < 65536) (hx : x.1 < 65536) (hks : ∀ ks, x.2 = .box ks → ks.length ≤ 65536) : (setD1 s x v).σ (gx k j) = s.σ (gx k j) := by
  obtain ⟨t, kd⟩ := x
  have := gx_ge k j
  simp only at hx
  cases kd with
  | one k1 => simp only [setD1]; rw [upd_ne _ _ (by omega)]
  | agg ks => simp only [setD1]; rw [upd_ne _ _ (by omega)]
  | box ks =>
    simp only [setD1]
    have hl := hks ks rfl
    rw [wrG_other, upd_ne _ _ (by omega)]
    intro i _ hi e
    rw [TLv_length] at hi
    have := (gx_inj hj (by omega) e).1
    exact hk ks (by rw [this])

theorem setLive_ghost : ∀ {l : Live} {s : St} {v : Tup l} {k j : Nat}, ¬ boxIn l k → j < 65536 → (∀ x ∈ l, x.1 < 65536) → (∀ t ks, (t, Kd.box ks) ∈ l → ks.length ≤ 65536) → (setLive s l v).σ (gx k j) = s.σ (gx k j)
  | [], _, _, _, _, _, _, _, _ => rfl
  | [x], s, v, k, j, hb, hj, hx, hks => setD1_ghost (fun ks e => hb ⟨ks, by simp [e]⟩) hj (hx x (by simp)) (fun ks e => hks x.1 ks (by rw [← e]; simp))
  | x :: y :: l, s, v, k, j, hb, hj, hx, hks => by
    simp only [setLive]
    rw [setLive_ghost (l := y :: l) (fun ⟨ks, h⟩ => hb ⟨ks, by simp only [List.mem_cons] at h ⊢; exact .inr h⟩) hj (fun z hz => hx z (by simp only [List.mem_cons] at hz ⊢; exact .inr hz)) (fun t ks hz => hks t ks (by simp only [List.mem_cons] at hz ⊢; exact .inr hz))]
    exact setD1_ghost (fun ks e => hb ⟨ks, by simp [e]⟩) hj (hx x (by simp)) (fun ks e => hks x.1 ks (by rw [← e]; simp))

theorem mix_frz (hI : Inv C a wa st u θ) (hl : liveOk fz st.D c = true) (ws : List Nat) (v : Tup c.live) : ∀ k, k ∈ freeze fz st.D c → ∀ m, (k, m) ∈ st.D → ∀ j, j < m → (mix st ws c v).σ (gx k j) = st.σ (gx k j) := by
  intro k hk m hm j hj
  obtain ⟨l1, l2, l3⟩ := liveOk_spec hl
  have hmm := (hI.boxes k m hm).1
  have hb : ∀ x ∈ c.scrap, x.1 < 65536 ∧ x.2 ≤ 65536 := fun x hx => ⟨(l3 x.1 x.2 hx).2.1, (hI.boxes x.1 x.2 (l3 x.1 x.2 hx).2.2).1⟩
  have hnot : ¬ boxIn c.live k ∧ ∀ m, (k, m) ∉ c.scrap := by
    unfold freeze at hk
    rw [List.mem_append] at hk
    rcases hk with hk | hk
    · exact ⟨fun ⟨ks, h⟩ => (l1 k ks h).1 hk, fun m h => (l3 k m h).1 hk⟩
    · rw [List.mem_filter] at hk
      have h2 := hk.2
      simp only [Bool.not_eq_true', cutBox, Bool.or_eq_false_iff, List.any_eq_false] at h2
      refine ⟨fun ⟨ks, h⟩ => ?_, fun m h => ?_⟩
      · exact h2.1 _ h (beq_iff.2 rfl)
      · exact h2.2 _ h (beq_iff.2 rfl)
  have key : ∀ (l : List (Nat × Nat)) (σ : Fr), (∀ x ∈ l, x.1 ≠ k ∧ x.1 < 65536 ∧ x.2 ≤ 65536) → scrapG σ l (gx k j) = σ (gx k j) := by
    intro l
    induction l with
    | nil => intro σ _; rfl
    | cons x l ih =>
      intro σ hx
      obtain ⟨k', m'⟩ := x
      have hx1 := hx (k', m') (by simp)
      simp only [scrapG]
      rw [ih _ (fun y hy => hx y (by simp [hy])), wrG_other, upd_ne]
      · have := gx_ge k j; have := hx1.2.1; omega
      · intro i _ hi e
        exact hx1.1 (gx_inj (by omega) (by simp at hi; have := hx1.2.2; omega) e).1.symm
  unfold mix
  rw [setLive_ghost hnot.1 (by omega) l2 (fun t ks h => (l1 t ks h).2.2)]
  simp only
  rw [key _ _ (fun x hx => ⟨fun e => hnot.2 x.2 (by rw [← e]; exact hx), hb x hx⟩), pois_ghost]

end
end Go.Eng
