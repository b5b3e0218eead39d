import Derived.Test.YtdiimonfmdbclaaEngE
import Derived.Laws.StructEq
/-
  The engine, sixth part: W1 is sound.
-/
namespace Go.Eng
open Go.RowKit

variable {C : Ctx} {a : Act} {wa : World} {st : St} {u : UW} {θ : Nat → Nat}

theorem bif_elim {c : Bool} {A : Prop} (h : (bif c then A else False)) : c = true ∧ A := by cases c <;> simp_all

theorem up_value {P : Program} {o : Oper} {r : Value} {wb : World} {next : Act → World → Prop} {Q : Exit → Act → World → Prop} (h : (execOp a.eval o).run P wa = .ok (.value r) wb) (hn : next (a.put o.dst r) wb) :
    o.uponIn Fence.wide 0 P a next Q ((execOp a.eval o).run P wa) := by rw [h]; exact hn

theorem up_skip {P : Program} {o : Oper} {wb : World} {next : Act → World → Prop} {Q : Exit → Act → World → Prop} (h : (execOp a.eval o).run P wa = .ok .skip wb) (hn : next (a.put o.dst undef) wb) :
    o.uponIn Fence.wide 0 P a next Q ((execOp a.eval o).run P wa) := by rw [h]; exact hn

theorem plain_int (k : IntKind) (i : Int) : plain (.int k i) = true := rfl
theorem plain_bool (b : Bool) : plain (.bool b) = true := rfl

/-! ### comparisons and sums -/
theorem eqs_append : ∀ {k1 k2 : List K1} {x1 x2 y1 y2 : List Value} {r : Bool}, x1.length = k1.length → y1.length = k1.length → eqs (k1 ++ k2) (x1 ++ x2) (y1 ++ y2) = some r →
    ∃ r1 r2, eqs k1 x1 y1 = some r1 ∧ eqs k2 x2 y2 = some r2 ∧ r = (r1 && r2)
  | [], k2, [], x2, [], y2, r, _, _, h => ⟨true, r, rfl, h, by simp⟩
  | k :: k1, k2, x :: x1, x2, y :: y1, y2, r, hx, hy, h => by
    simp only [List.length_cons, Nat.add_right_cancel_iff] at hx hy
    have key : ∀ (b : Bool) (r' : Bool), (match eqs (k1 ++ k2) (x1 ++ x2) (y1 ++ y2) with | some r => some (b && r) | none => none) = some r' →
        ∃ r1 r2, eqs k1 x1 y1 = some r1 ∧ eqs k2 x2 y2 = some r2 ∧ r' = (b && r1 && r2) := by
      intro b r' h
      cases he : eqs (k1 ++ k2) (x1 ++ x2) (y1 ++ y2) with
      | none => simp [he] at h
      | some r0 =>
        obtain ⟨r1, r2, e1, e2, e3⟩ := eqs_append hx hy he
        simp only [he, Option.some.injEq] at h
        exact ⟨r1, r2, e1, e2, by rw [← h, e3, Bool.and_assoc]⟩
    simp only [List.cons_append] at h
    cases k with
    | int kk =>
      cases x <;> first | (simp [eqs] at h; done) | skip
      cases y <;> first | (simp [eqs] at h; done) | skip
      rename_i ka a kb b
      simp only [eqs, Bool.cond_eq_ite] at h
      split at h
      · rename_i hk
        obtain ⟨r1, r2, e1, e2, e3⟩ := key _ _ h
        exact ⟨(a == b) && r1, r2, by simp only [eqs, hk, cond_true, e1], e2, e3⟩
      · cases h
    | bool =>
      cases x <;> first | (simp [eqs] at h; done) | skip
      cases y <;> first | (simp [eqs] at h; done) | skip
      rename_i a b
      simp only [eqs] at h
      obtain ⟨r1, r2, e1, e2, e3⟩ := key _ _ h
      exact ⟨(a == b) && r1, r2, by simp only [eqs, e1], e2, e3⟩
    | str =>
      cases x <;> first | (simp [eqs] at h; done) | skip
      cases y <;> first | (simp [eqs] at h; done) | skip
      rename_i a b
      simp only [eqs] at h
      obtain ⟨r1, r2, e1, e2, e3⟩ := key _ _ h
      exact ⟨strEq a b && r1, r2, by simp only [eqs, e1], e2, e3⟩
    | slice => simp [eqs] at h
    | ptr => simp [eqs] at h
    | fn => simp [eqs] at h
    | map => simp [eqs] at h
    | val => simp [eqs] at h
  | _ :: _, _, [], _, _, _, _, hx, _, _ => by simp at hx
  | _ :: _, _, _ :: _, _, [], _, _, _, hy, _ => by simp at hy
  | [], _, _ :: _, _, _, _, _, hx, _, _ => by simp at hx
  | [], _, [], _, _ :: _, _, _, _, hy, _ => by simp at hy

theorem run_part_agg {P : Program} {w : World} {t : TypeId} {d : TypeDesc} {cs : Array Value} {o : Nat} (hd : P.underlying t = some d) (hag : aggT P t = true) :
    (part t cs o).run P w = .ok (.agg (cs.extract o (o + P.cellsOf t))) w := by
  obtain ⟨i, hi⟩ := info_of_under hd
  simp only [part, Sem.run_bind, run_isAgg hd, hag, if_true, Result.andThen_ok, run_size hi, Sem.run_pure]

theorem run_part_one {P : Program} {w : World} {t : TypeId} {d : TypeDesc} {cs : Array Value} {o : Nat} {v : Value} (hd : P.underlying t = some d) (hag : aggT P t = false) (hv : cs[o]? = some v) :
    (part t cs o).run P w = .ok v w := by
  simp only [part, Sem.run_bind, run_isAgg hd, hag, Bool.false_eq_true, if_false, Result.andThen_ok, hv, Sem.run_pure]

theorem run_elt {P : Program} {w : World} {e : TypeId} {cs : Array Value} {off : Nat} {v : Value} (hv : eltV P e off cs.toList = some v) : (part e cs off).run P w = .ok v w := by
  unfold eltV at hv
  simp only [Bool.cond_eq_ite, Bool.and_eq_true, Nat.ble_eq] at hv
  split at hv
  · rename_i hc
    obtain ⟨hi, hle⟩ := hc
    obtain ⟨d, hud⟩ := Option.isSome_iff_exists.1 hi
    split at hv
    · rename_i hag
      simp only [Option.some.injEq] at hv
      rw [run_part_agg hud hag, ← hv]
      congr 2
      apply Array.toList_inj.1
      rw [Array.toList_extract, List.extract_eq_take_drop]
      simp
    · rename_i hag
      simp only [Bool.not_eq_true] at hag
      exact run_part_one hud hag (v := v) (by simpa using hv)
  · cases hv

theorem drop_take_cons {l : List Value} {o n : Nat} (h : o + (n + 1) ≤ l.length) : (l.drop o).take (n + 1) = l[o]'(by omega) :: (l.drop (o + 1)).take n := by
  rw [List.drop_eq_getElem_cons (by omega), List.take_succ_cons]

theorem one_drop {xs : Array Value} {o : Nat} (h : o + 1 ≤ xs.size) : (xs.toList.drop o).take 1 = [xs[o]'(by omega)] := by
  rw [drop_take_cons (n := 0) (by simpa using h)]
  simp

theorem eq_main {P : Program} {w : World} : ∀ (f : Nat) (t : TypeId) (ks : List K1), eqT P f t = some ks → ∀ (d : Nat), f ≤ d → ∀ (xs ys : Array Value) (o : Nat) (r : Bool), o + ks.length ≤ xs.size → o + ks.length ≤ ys.size →
    eqs ks ((xs.toList.drop o).take ks.length) ((ys.toList.drop o).take ks.length) = some r →
    ∃ x y, (part t xs o).run P w = .ok x w ∧ (part t ys o).run P w = .ok y w ∧ (Op.equalIn d t x y).run P w = .ok r w
  | 0, t, ks, h, _, _, _, _, _, _, _, _, _ => by simp [eqT] at h
  | f + 1, t, ks, h, d, hd, xs, ys, o, r, hx, hy, hr => by
    obtain ⟨d, rfl⟩ : ∃ d', d = d' + 1 := ⟨d - 1, by omega⟩
    simp only [eqT] at h
    cases hu : P.underlying t with
    | none => simp [hu] at h
    | some D =>
      have hone : ∀ k : K1, ks = [k] → aggT P t = false → (∀ x y, eqs [k] [x] [y] = some r → (Op.equalIn (d + 1) t x y).run P w = .ok r w) →
          ∃ x y, (part t xs o).run P w = .ok x w ∧ (part t ys o).run P w = .ok y w ∧ (Op.equalIn (d + 1) t x y).run P w = .ok r w := by
        rintro k rfl hag hk
        simp only [List.length_singleton] at hx hy hr
        rw [one_drop hx, one_drop hy] at hr
        exact ⟨xs[o], ys[o], run_part_one hu hag (Array.getElem?_eq_getElem (by omega)), run_part_one hu hag (Array.getElem?_eq_getElem (by omega)), hk _ _ hr⟩
      cases D <;> simp only [hu] at h <;> try (cases h; done)
      · simp only [Option.some.injEq] at h
        refine hone _ h.symm (by simp [aggT, hu]) fun x y hxy => ?_
        cases x <;> first | (simp [eqs] at hxy; done) | skip
        cases y <;> first | (simp [eqs] at hxy; done) | skip
        simp only [eqs] at hxy
        simp only [Option.some.injEq, Bool.and_true] at hxy
        rw [run_equalIn_bool' w d t _ _ hu, hxy]
      · rename_i k
        simp only [Option.some.injEq] at h
        refine hone _ h.symm (by simp [aggT, hu]) fun x y hxy => ?_
        cases x <;> first | (simp [eqs] at hxy; done) | skip
        cases y <;> first | (simp [eqs] at hxy; done) | skip
        simp only [eqs] at hxy
        rename_i ka a kb b
        simp only [Bool.cond_eq_ite] at hxy
        split at hxy
        · rename_i hk
          simp only [decide_eq_true_eq] at hk
          subst hk
          simp only [Option.some.injEq, Bool.and_true] at hxy
          rw [run_equalIn_int w d t _ _ _ _ hu, hxy]
        · cases hxy
      · simp only [Option.some.injEq] at h
        refine hone _ h.symm (by simp [aggT, hu]) fun x y hxy => ?_
        cases x <;> first | (simp [eqs] at hxy; done) | skip
        cases y <;> first | (simp [eqs] at hxy; done) | skip
        simp only [eqs] at hxy
        simp only [Option.some.injEq, Bool.and_true] at hxy
        rw [run_equalIn_string w d t _ _ hu, ← hxy]
        rfl
      · rename_i fs
        simp only [Bool.cond_eq_ite] at h
        split at h
        · cases h
        · rename_i hst
          simp only [Bool.not_eq_true] at hst
          cases hts : eqTs (eqT P f) 0 fs.toList with
          | none => simp [hts] at h
          | some l =>
            simp only [hts, beq_iff] at h
            split at h
            · rename_i hlen
              simp only [Option.some.injEq] at h
              subst h
              have hag : aggT P t = true := by simp [aggT, hu]
              have hfo : P.fieldsOf t = fs := by simp [Program.fieldsOf, hu]
              have hu' : P.underlying t = some (.struct (P.fieldsOf t)) := by rw [hfo]; exact hu
              refine ⟨_, _, run_part_agg hu hag, run_part_agg hu hag, ?_⟩
              rw [run_equalIn_struct w d t _ _ hu' hst, hfo]
              have hX : ∀ zs : Array Value, o + l.length ≤ zs.size → (zs.extract o (o + P.cellsOf t)).toList = (zs.toList.drop o).take l.length := by
                intro zs hz
                rw [Array.toList_extract, hlen]
                simp [List.extract_eq_take_drop]
              have key : ∀ (gs : List Field) (a : Nat) (l' : List K1) (X Y : Array Value) (r : Bool), eqTs (eqT P f) a gs = some l' → a + l'.length = X.size → a + l'.length = Y.size →
                  eqs l' (X.toList.drop a) (Y.toList.drop a) = some r → (Op.eqFields d X Y gs).run P w = .ok r w := by
                intro gs
                induction gs with
                | nil =>
                  intro a l' X Y r h1 h2 h3 h4
                  simp only [eqTs, Option.some.injEq] at h1
                  subst h1
                  simp only [List.length_nil, Nat.add_zero] at h2 h3
                  rw [List.drop_of_length_le (by simp; omega), List.drop_of_length_le (by simp; omega)] at h4
                  simp only [eqs, Option.some.injEq] at h4
                  subst h4
                  simp [Op.eqFields]
                | cons g gs ih =>
                  intro a l' X Y r h1 h2 h3 h4
                  simp only [eqTs] at h1
                  cases hg : eqT P f g.type with
                  | none => simp [hg] at h1
                  | some lg =>
                    simp only [hg, Bool.cond_eq_ite, Bool.and_eq_true, decide_eq_true_eq, beq_iff] at h1
                    split at h1
                    · rename_i hname
                      obtain ⟨hname, hoff⟩ := hname
                      cases hgs : eqTs (eqT P f) (a + lg.length) gs with
                      | none => simp [hgs] at h1
                      | some lr =>
                        simp only [hgs, Option.some.injEq] at h1
                        subst h1
                        simp only [List.length_append] at h2 h3
                        have sp : ∀ Z : Array Value, a + (lg.length + lr.length) = Z.size → Z.toList.drop a = (Z.toList.drop a).take lg.length ++ Z.toList.drop (a + lg.length) := by
                          intro Z hZ
                          rw [← List.drop_drop]; exact (List.take_append_drop _ _).symm
                        rw [sp X h2, sp Y h3] at h4
                        obtain ⟨r1, r2, e1, e2, e3⟩ := eqs_append (by simp; omega) (by simp; omega) h4
                        obtain ⟨x, y, p1, p2, p3⟩ := eq_main (w := w) f g.type lg hg d (by omega) X Y a r1 (by omega) (by omega) e1
                        have hrest := ih (a + lg.length) lr X Y r2 hgs (by omega) (by omega) e2
                        simp only [Op.eqFields]
                        rw [if_pos hname]
                        rw [hoff]
                        simp only [Sem.run_bind, p1, Result.andThen_ok, p2, p3]
                        cases r1
                        · simp [e3]
                        · simp [e3, hrest]
                    · cases h1
              refine key fs.toList 0 l _ _ r hts ?_ ?_ ?_
              · simp; omega
              · simp; omega
              · rw [List.drop_zero, List.drop_zero, hX xs hx, hX ys hy]; exact hr
            · cases h

theorem guard_ok {P : Program} {op : BinOp} {t : TypeId} {x y : Value} (X Y : Operand) (w : World) (h1 : x ≠ .nilIface) (h2 : ∀ c, x ≠ .agg c) : (eqGuard op t X Y x y).run P w = .ok () w := by
  cases x <;> first | exact absurd rfl h1 | exact absurd rfl (h2 _) | (cases op <;> rfl)

theorem intBin_sound {P : Program} {op : BinOp} {t : TypeId} {k : IntKind} {i j : Int} {K : Value → Prop} (h : intBin op k i j K) :
    ∃ v, plain v = true ∧ K v ∧ ∀ w, (binOp op t (.int k i) (.int k j)).run P w = .ok v w := by
  cases op <;> simp only [intBin] at h <;> try (exact h.elim)
  case quo => exact ⟨_, rfl, h.2, fun w => by simp [binOp, Op.intDiv, h.1]⟩
  case rem => exact ⟨_, rfl, h.2, fun w => by simp [binOp, Op.intDiv, h.1]⟩
  all_goals exact ⟨_, rfl, h, fun w => by simp [binOp, Op.intArith, Op.intCmp]⟩

theorem strBin_sound {P : Program} {op : BinOp} {t : TypeId} {i j : ByteArray} {K : Value → Prop} (h : strBin op i j K) :
    ∃ v, plain v = true ∧ K v ∧ ∀ w, (binOp op t (.string i) (.string j)).run P w = .ok v w := by
  cases op <;> simp only [strBin] at h <;> try (exact h.elim)
  case add =>
    have hm : ¬ (((i.size + j.size : Nat) : Int) > IntKind.i64.max) := by
      have : IntKind.i64.max = 9223372036854775807 := by decide
      rw [this]; omega
    exact ⟨_, rfl, h.2, fun w => by simp only [binOp, Op.stringOp]; rw [if_neg hm]; rfl⟩
  all_goals exact ⟨_, rfl, h, fun _ => rfl⟩

theorem run_eql {P : Program} {t : TypeId} {x y : Value} {r : Bool} {w : World} (hx : ∀ k i, x ≠ .int k i) (hf : ∀ k i, x ≠ .float k i) (hc : ∀ k i j, x ≠ .complex k i j) (hs : ∀ s, x ≠ .string s)
    (h : (Op.equalIn 10000 t x y).run P w = .ok r w) : (binOp .eql t x y).run P w = .ok (.bool r) w ∧ (binOp .neq t x y).run P w = .ok (.bool (!r)) w := by
  have h' : (Op.equal t x y).run P w = .ok r w := h
  cases x <;> first | exact absurd rfl (hx _ _) | exact absurd rfl (hf _ _) | exact absurd rfl (hc _ _ _) | exact absurd rfl (hs _) |
    exact ⟨by simp only [binOp, Sem.run_bind, h', Result.andThen_ok, Sem.run_pure], by simp only [binOp, Sem.run_bind, h', Result.andThen_ok, Sem.run_pure]⟩

theorem equalIn_ptr {P : Program} {t e : TypeId} (hu : P.underlying t = some (.pointer e)) (d : Nat) (a : Option Addr) (w : World) : (Op.equalIn (d + 1) t (.pointer a) (.pointer none)).run P w = .ok a.isNone w := by
  cases a <;> simp [Op.equalIn, run_under hu]
theorem equalIn_slice {P : Program} {t e : TypeId} (hu : P.underlying t = some (.slice e)) (d : Nat) (a : Option Addr) (n c n' c' : Nat) (w : World) : (Op.equalIn (d + 1) t (.slice a n c) (.slice none n' c')).run P w = .ok a.isNone w := by
  cases a <;> simp [Op.equalIn, run_under hu]
theorem equalIn_func {P : Program} {t : TypeId} {p r : Array TypeId} {v : Bool} (hu : P.underlying t = some (.func p r v)) (d : Nat) (f : Fn) (a b : Array Value) (w : World) : (Op.equalIn (d + 1) t (.func f a b) .nilFunc).run P w = .ok false w := by
  simp [Op.equalIn, run_under hu]

theorem eqT_len {P : Program} {f : Nat} {t : TypeId} {ks : List K1} (hks : eqT P (f + 1) t = some ks) (hag : aggT P t = true) : ks.length = P.cellsOf t := by
  simp only [eqT] at hks
  cases hu : P.underlying t with
  | none => simp [hu] at hks
  | some d =>
    cases d <;> simp only [hu] at hks <;> simp only [aggT, hu] at hag <;> try (cases hag; done)
    · cases hks
    · rename_i fs
      simp only [Bool.cond_eq_ite] at hks
      split at hks
      · cases hks
      · cases hts : eqTs (eqT P f) 0 fs.toList with
        | none => simp [hts] at hks
        | some l =>
          simp only [hts, beq_iff] at hks
          split at hks
          · rename_i hl; simp only [Option.some.injEq] at hks; subst hks; exact hl
          · cases hks

def eq2 (op : BinOp) (K : Value → Prop) (r : Bool) : Prop :=
  match op with
  | .eql => K (.bool r)
  | .neq => K (.bool (!r))
  | _ => False

theorem cBin_cases {P : Program} {op : BinOp} {t : TypeId} {x y : Value} {K : Value → Prop} (h : cBin P op t x y K) :
    (∃ k a b, x = .int k a ∧ y = .int k b ∧ intBin op k a b K) ∨ (∃ a b, x = .string a ∧ y = .string b ∧ strBin op a b K) ∨
    (∃ a b, x = .bool a ∧ y = .bool b ∧ P.underlying t = some .bool ∧ eq2 op K (a == b)) ∨
    (∃ a b ks r, x = .agg a ∧ y = .agg b ∧ eqT P 8 t = some ks ∧ ks.length = a.size ∧ ks.length = b.size ∧ P.eqGuardType P.depth t = false ∧ aggT P t = true ∧ eqs ks a.toList b.toList = some r ∧ eq2 op K r) ∨
    (∃ a e, x = .pointer a ∧ y = .pointer none ∧ P.underlying t = some (.pointer e) ∧ eq2 op K a.isNone) ∨
    (∃ a n c n' c' e, x = .slice a n c ∧ y = .slice none n' c' ∧ P.underlying t = some (.slice e) ∧ eq2 op K a.isNone) ∨
    (∃ f a b p r v, x = .func f a b ∧ y = .nilFunc ∧ P.underlying t = some (.func p r v) ∧ eq2 op K false) := by
  cases x with
  | int k i =>
    cases y <;> first | exact (show False from h).elim | skip
    obtain ⟨hk, h'⟩ := bif_elim (show (bif decide (_ = _) then intBin op _ _ _ K else False) from h)
    simp only [decide_eq_true_eq] at hk
    subst hk
    exact .inl ⟨_, _, _, rfl, rfl, h'⟩
  | string s =>
    cases y <;> first | exact (show False from h).elim | skip
    exact .inr (.inl ⟨_, _, rfl, rfl, h⟩)
  | bool i =>
    cases y <;> first | exact (show False from h).elim | skip
    simp only [cBin] at h
    cases hu : P.underlying t with
    | none => simp only [hu] at h
    | some d =>
      cases d <;> simp only [hu] at h
      exact .inr (.inr (.inl ⟨_, _, rfl, rfl, rfl, h⟩))
  | agg i =>
    cases y <;> first | exact (show False from h).elim | skip
    rename_i j
    simp only [cBin] at h
    cases hks : eqT P 8 t with
    | none => simp only [hks] at h
    | some ks =>
      simp only [hks] at h
      obtain ⟨hc, h⟩ := bif_elim h
      simp only [Bool.and_eq_true, beq_iff, Bool.not_eq_true'] at hc
      obtain ⟨⟨⟨ha, hb⟩, hg⟩, hag⟩ := hc
      cases hr : eqs ks i.toList j.toList with
      | none => simp only [hr] at h
      | some r =>
        simp only [hr] at h
        exact .inr (.inr (.inr (.inl ⟨_, _, _, _, rfl, rfl, rfl, ha, hb, hg, hag, hr, h⟩)))
  | pointer i =>
    cases y <;> first | exact (show False from h).elim | skip
    rename_i j
    cases j with
    | some j => exact (show False from h).elim
    | none =>
      simp only [cBin] at h
      cases hu : P.underlying t with
      | none => simp only [hu] at h
      | some d =>
        cases d <;> simp only [hu] at h
        exact .inr (.inr (.inr (.inr (.inl ⟨_, _, rfl, rfl, rfl, h⟩))))
  | slice i n c =>
    cases y <;> first | exact (show False from h).elim | skip
    rename_i j n' c'
    cases j with
    | some j => exact (show False from h).elim
    | none =>
      simp only [cBin] at h
      cases hu : P.underlying t with
      | none => simp only [hu] at h
      | some d =>
        cases d <;> simp only [hu] at h
        exact .inr (.inr (.inr (.inr (.inr (.inl ⟨_, _, _, _, _, _, rfl, rfl, rfl, h⟩)))))
  | func f i j =>
    cases y <;> first | exact (show False from h).elim | skip
    simp only [cBin] at h
    cases hu : P.underlying t with
    | none => simp only [hu] at h
    | some d =>
      cases d <;> simp only [hu] at h
      exact .inr (.inr (.inr (.inr (.inr (.inr ⟨_, _, _, _, _, _, rfl, rfl, rfl, h⟩)))))
  | _ => exact (show False from h).elim

theorem cBin_sound {P : Program} {op : BinOp} {t : TypeId} {x y : Value} {K : Value → Prop} (h : cBin P op t x y K) (X Y : Operand) :
    plain x = true ∧ plain y = true ∧ ∃ v, plain v = true ∧ K v ∧ ∀ w, (do eqGuard op t X Y x y; binOp op t x y : Sem Value).run P w = .ok v w := by
  have close : ∀ {v : Value}, x ≠ .nilIface → (∀ c, x ≠ .agg c) → plain v = true → K v → (∀ w, (binOp op t x y).run P w = .ok v w) →
      ∃ v, plain v = true ∧ K v ∧ ∀ w, (do eqGuard op t X Y x y; binOp op t x y : Sem Value).run P w = .ok v w := by
    intro v h1 h2 hp hK hr
    exact ⟨v, hp, hK, fun w => by simp only [Sem.run_bind, guard_ok X Y w h1 h2, Result.andThen_ok, hr]⟩
  have two : ∀ {r : Bool}, x ≠ .nilIface → (∀ c, x ≠ .agg c) → (∀ k i, x ≠ .int k i) → (∀ k i, x ≠ .float k i) → (∀ k i j, x ≠ .complex k i j) → (∀ s, x ≠ .string s) → (∀ w, (Op.equalIn 10000 t x y).run P w = .ok r w) →
      eq2 op K r → ∃ v, plain v = true ∧ K v ∧ ∀ w, (do eqGuard op t X Y x y; binOp op t x y : Sem Value).run P w = .ok v w := by
    intro r h1 h2 h3 h4 h5 h6 hr hK
    have hh := fun w => run_eql h3 h4 h5 h6 (hr w)
    cases op <;> simp only [eq2] at hK
    · exact close h1 h2 rfl hK fun w => (hh w).1
    · exact close h1 h2 rfl hK fun w => (hh w).2
  have hc := cBin_cases h
  clear h
  rcases hc with ⟨k, a, b, rfl, rfl, h⟩ | ⟨a, b, rfl, rfl, h⟩ | ⟨a, b, rfl, rfl, hu, h⟩ | ⟨a, b, ks, r, rfl, rfl, hks, ha, hb, hg, hag, hr, h⟩ | ⟨a, e, rfl, rfl, hu, h⟩ | ⟨a, n, c, n', c', e, rfl, rfl, hu, h⟩ | ⟨f, a, b, p, r, v, rfl, rfl, hu, h⟩
  · obtain ⟨v, hp, hK, hr⟩ := intBin_sound (P := P) (t := t) h
    exact ⟨rfl, rfl, close (by simp) (by simp) hp hK hr⟩
  · obtain ⟨v, hp, hK, hr⟩ := strBin_sound (P := P) (t := t) h
    exact ⟨rfl, rfl, close (by simp) (by simp) hp hK hr⟩
  · exact ⟨rfl, rfl, two (by simp) (by simp) (by simp) (by simp) (by simp) (by simp) (fun w => run_equalIn_bool' w 9999 t a b hu) h⟩
  · refine ⟨rfl, rfl, ?_⟩
    have hr' : eqs ks ((a.toList.drop 0).take ks.length) ((b.toList.drop 0).take ks.length) = some r := by
      rw [List.drop_zero, List.drop_zero, List.take_of_length_le (by simp; omega), List.take_of_length_le (by simp; omega)]; exact hr
    have p3 : ∀ w, (Op.equalIn 10000 t (.agg a) (.agg b)).run P w = .ok r w := by
      intro w
      obtain ⟨x, y, p1, p2, p3⟩ := eq_main (w := w) 8 t ks hks 10000 (by omega) a b 0 r (by omega) (by omega) hr'
      have hu : ∃ d, P.underlying t = some d := by
        unfold aggT at hag
        cases hu : P.underlying t with
        | none => simp [hu] at hag
        | some d => exact ⟨d, rfl⟩
      obtain ⟨d, hu⟩ := hu
      have hks' : ks.length = P.cellsOf t := eqT_len hks hag
      rw [run_part_agg hu hag] at p1 p2
      simp only [Result.ok.injEq, and_true] at p1 p2
      subst p1 p2
      rw [← hks', Nat.zero_add] at p3
      have hA : a.extract 0 ks.length = a := by rw [ha]; simp
      have hB : b.extract 0 ks.length = b := by rw [hb]; simp
      rw [hA, hB] at p3
      exact p3
    cases op <;> simp only [eq2] at h
    · exact ⟨_, rfl, h, fun w => by simp only [Sem.run_bind, run_eqGuard_agg w _ t X Y a b hg, Result.andThen_ok, run_eql_struct, p3]⟩
    · exact ⟨_, rfl, h, fun w => by simp only [Sem.run_bind, run_eqGuard_agg w _ t X Y a b hg, Result.andThen_ok, run_neq_struct, p3]⟩
  · exact ⟨rfl, rfl, two (r := a.isNone) (by simp) (by simp) (by simp) (by simp) (by simp) (by simp) (fun w => equalIn_ptr hu 9999 a w) h⟩
  · exact ⟨rfl, rfl, two (r := a.isNone) (by simp) (by simp) (by simp) (by simp) (by simp) (by simp) (fun w => equalIn_slice hu 9999 a n c n' c' w) h⟩
  · exact ⟨rfl, rfl, two (r := false) (by simp) (by simp) (by simp) (by simp) (by simp) (by simp) (fun w => equalIn_func hu 9999 f a b w) h⟩

end Go.Eng
