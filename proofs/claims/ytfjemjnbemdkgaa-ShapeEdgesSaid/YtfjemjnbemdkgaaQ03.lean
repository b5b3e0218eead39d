import Derived.Test.YtfjemjnbemdkgaaQ02
/-
  The engine: regions that draw their order.
-/
namespace Go.Eng
open Go.RowKit

/-- Behind a piece of code. -/
def QW (C : Ctx) (fz ws : List Nat) (st : St) (Q : Exit → St → UW → Prop) (e : Exit) (a' : Act) (wa' : World) : Prop :=
  ∃ st' u' θ', Inv C a' wa' st' u' θ' ∧ Pres C.n fz ws st st' ∧ Q e st' u'

theorem getD_some {a : Array Value} {g n : Nat} (hs : a.size = n) (hg : g < n) : a[g]? = some (a.getD g undef) := by
  rw [Array.getD_eq_getD_getElem?, Array.getElem?_eq_getElem (by omega)]; rfl

theorem upd_self {σ : Fr} {t : Nat} {v : Value} (h : σ t = v) : upd σ t v = σ := by
  funext i
  by_cases e : i = t
  · subst e; rw [upd_same, h]
  · rw [upd_ne _ _ e]

/-! ### orders: an operation that only reads may be taken first -/
section
variable {P : Program} {ops : Array Oper} {Q : Exit → Act → World → Prop} {S : World → Prop}

/-- One operation, calls of yield taken in. -/
def wpOpR (P : Program) (ops : Array Oper) (Q : Exit → Act → World → Prop) (i : Nat) (K : Act → World → Prop) (a : Act) (w : World) : Prop :=
  match ops[i]? with
  | none => K a w
  | some o => if Region.wanted o (yielded ops a.tmps) then o.uponIn Fence.wide 0 P a K Q ((execOp a.eval o).run P w) else K (a.put o.dst undef) w

theorem upon_mono {o : Oper} {a : Act} {K K' : Act → World → Prop} {r : Result Next} (h : ∀ a w, K a w → K' a w) (hh : o.uponIn Fence.wide 0 P a K Q r) : o.uponIn Fence.wide 0 P a K' Q r := by
  cases r with
  | halt x w => cases x <;> exact hh
  | ok x w =>
    cases x <;> simp only [Oper.uponIn] at hh ⊢
    case value v => exact h _ _ hh
    case skip => exact h _ _ hh
    case defer d => exact h _ _ hh
    case enter f args => exact ⟨hh.1, hh.2.mono fun e w' he => by cases e <;> first | exact h _ _ he | exact he⟩
    case row r args => exact ⟨hh.1, hh.2.mono fun v w' he => h _ _ he⟩
    case round l f t x y => exact ⟨hh.1, hh.2.mono fun e w' he => by cases e <;> first | exact h _ _ he | exact he⟩

theorem wpOpR_mono {i : Nat} {a : Act} {w : World} {K K' : Act → World → Prop} (h : ∀ a w, K a w → K' a w) (hh : wpOpR P ops Q i K a w) : wpOpR P ops Q i K' a w := by
  unfold wpOpR at *
  cases ho : ops[i]? with
  | none => simp only [ho] at hh ⊢; exact h _ _ hh
  | some o =>
    simp only [ho] at hh ⊢
    split <;> rename_i hw <;> simp only [hw, if_true, if_false, Bool.false_eq_true] at hh
    · exact upon_mono h hh
    · exact h _ _ hh

theorem yieldsR {i : Nat} {o : Oper} {v : Value} {a : Act} {K : Act → World → Prop} {w : World} (hi : ops[i]? = some o) (hy : YieldsIf P ops S o v a) (hS : S w) (h : K (a.put o.dst v) w) : wpOpR P ops Q i K a w := by
  unfold wpOpR
  simp only [hi]
  rcases hy with ⟨hw, hv⟩ | ⟨hw, rfl⟩
  · rw [if_pos hw, hv w hS]; exact h
  · rw [if_neg (by simp [hw])]; exact h

/-- An operation that stands apart from one that only reads. -/
theorem wpOpR_put {j : Nat} {oi oj : Oper} {v : Value} {K : Act → World → Prop} {a : Act} {w : World} (hj : ops[j]? = some oj) (hap : oi.apart ops oj = true)
    (hsi : ∀ cs b, oi.op ≠ .select cs b) (hsj : ∀ cs b, oj.op ≠ .select cs b) (hQ : ∀ c a w, Q (.panic c) (a.put oi.dst v) w → Q (.panic c) a w)
    (hy : YieldsIf P ops S oi v a) (h : wpOpR P ops Q j K (a.put oi.dst v) w) : wpOpR P ops Q j (fun a' w' => YieldsIf P ops S oi v a' ∧ K (a'.put oi.dst v) w') a w := by
  obtain ⟨h1, h2, h3⟩ := Oper.apart_spec hap
  have st : ∀ (b : Act) (x : Value), YieldsIf P ops S oi v b → YieldsIf P ops S oi v (b.put oj.dst x) := fun b x hb => hb.of_same (execOp_put oi hsi b oj.dst x h3) (wanted_put oi b oj.dst x h3)
  have both : ∀ (x : Value) (w' : World), K ((a.put oi.dst v).put oj.dst x) w' → YieldsIf P ops S oi v (a.put oj.dst x) ∧ K ((a.put oj.dst x).put oi.dst v) w' :=
    fun x w' hk => ⟨st a x hy, by rw [← Act.put_comm a v x h2]; exact hk⟩
  unfold wpOpR at h ⊢
  simp only [hj, wanted_put oj a oi.dst v h1, execOp_put oj hsj a oi.dst v h1] at h ⊢
  split <;> rename_i hw <;> simp only [hw, if_true, if_false, Bool.false_eq_true] at h
  · cases hr : (execOp a.eval oj).run P w with
    | halt x w' =>
      rw [hr] at h
      cases x <;> simp only [Oper.uponIn] at h ⊢
      exact hQ _ _ _ h
    | ok x w' =>
      rw [hr] at h
      cases x <;> simp only [Oper.uponIn] at h ⊢
      case value x => exact both x w' h
      case skip => exact both undef w' h
      case defer d =>
        refine ⟨st _ _ (hy.of_same rfl rfl), ?_⟩
        rw [← Act.put_comm _ v undef h2, ← Act.put_defers]; exact h
      case enter f args =>
        exact ⟨h.1, h.2.mono fun e w'' he => by cases e <;> first | exact both _ _ he | exact hQ _ _ _ he | exact he⟩
      case row r args => exact ⟨h.1, h.2.mono fun x w'' he => both x w'' he⟩
      case round l f t x y =>
        exact ⟨h.1, h.2.mono fun e w'' he => by cases e <;> first | exact both _ _ he | exact hQ _ _ _ he | exact he⟩
  · exact both undef w h

def Fw (ro : Option (Nat × Loop)) : Fence := { Fence.wide with round := ro.map (·.1) }

theorem upon_fence (ro : Option (Nat × Loop)) {o : Oper} {a : Act} {K : Act → World → Prop} {r : Result Next} (h : o.uponIn Fence.wide 0 P a K Q r) : o.uponIn (Fw ro) 0 P a K Q r := by
  cases r with
  | halt x w => cases x <;> exact h
  | ok x w => cases x <;> exact h

theorem wpIn_of_upon (ro : Option (Nat × Loop)) {o : Oper} {a : Act} {w : World} {K : Act → World → Prop} (hd : ∀ c, o.op ≠ .defer c) (h : o.uponIn Fence.wide 0 P a K Q ((execOp a.eval o).run P w)) : o.wpIn (Fw ro) 0 P a w K Q :=
  ⟨fun _ _ => trivial, by rw [Oper.semAt_eq _ _ _ hd]; exact upon_fence ro h⟩

theorem wpOpIn_of_R (ro : Option (Nat × Loop)) {i : Nat} {a : Act} {w : World} {K : Act → World → Prop} (hd : ∀ (j : Nat) (o : Oper) c, ops[j]? = some o → o.op ≠ .defer c) (h : wpOpR P ops Q i K a w) : wpOpIn (Fw ro) 0 P ops Q i K a w := by
  unfold wpOpR at h
  unfold wpOpIn
  cases ho : ops[i]? with
  | none => simp only [ho] at h ⊢; exact h
  | some o =>
    simp only [ho] at h ⊢
    split <;> rename_i hw <;> simp only [hw, if_true, if_false, Bool.false_eq_true] at h
    · exact wpIn_of_upon ro (fun c => hd i o c ho) h
    · exact ⟨fun _ _ => trivial, h⟩

def wpAnyT (P : Program) (ops : Array Oper) (Q : Exit → Act → World → Prop) (S : World → Prop) : Nat → Array Bool → Act → World → Prop
  | 0, listed, a, w => Region.ready .any ops listed = [] ∧ Q .normal a w
  | fuel + 1, listed, a, w =>
    (Region.ready .any ops listed = [] → Q .normal a w) ∧
    ∀ i ∈ Region.ready .any ops listed, wpOpR P ops Q i (fun a' w' => (late ops i = true → S w → S w') ∧ wpAnyT P ops Q S fuel (listed.setIfInBounds i true) a' w') a w

theorem wpAny_of_T (ro : Option (Nat × Loop)) (hd : ∀ (j : Nat) (o : Oper) c, ops[j]? = some o → o.op ≠ .defer c) : ∀ (fuel : Nat) (listed : Array Bool) (a : Act) (w : World), wpAnyT P ops Q S fuel listed a w → wpAnyIn (Fw ro) 0 P .any ops Q fuel listed a w
  | 0, _, _, _, h => h
  | fuel + 1, _, _, _, h => ⟨h.1, fun i hi => wpOpIn_mono (fun a' w' h' => wpAny_of_T ro hd fuel _ a' w' h'.2) (wpOpIn_of_R ro hd (h.2 i hi))⟩

/-- What is listed is closed under 'must come ahead'. -/
def Cl (ops : Array Oper) (listed : Array Bool) : Prop := ∀ y oy, ops[y]? = some oy → listed.getD y false = true → ∀ e ∈ oy.after, Region.binds .any e = true → listed.getD e.on false = true

theorem Cl.none (ops : Array Oper) (n : Nat) : Cl ops (Array.replicate n false) := by
  intro y oy _ h
  rw [Array.getD_eq_getD_getElem?, Array.getElem?_replicate] at h
  split at h <;> simp at h

theorem Cl.set {listed : Array Bool} {i : Nat} (h : Cl ops listed) (hi : i ∈ Region.ready .any ops listed) : Cl ops (listed.setIfInBounds i true) := by
  have mono : ∀ x, listed.getD x false = true → (listed.setIfInBounds i true).getD x false = true := by
    intro x hx
    by_cases hix : i = x
    · subst hix
      have : i < listed.size := by
        rcases Nat.lt_or_ge i listed.size with h' | h'
        · exact h'
        · rw [Array.getD_eq_getD_getElem?, Array.getElem?_eq_none h'] at hx; cases hx
      simp [Array.getD_eq_getD_getElem?, this]
    · rw [getD_set_ne false hix]; exact hx
  intro y oy hy hl e he hb
  by_cases hiy : i = y
  · subst hiy
    obtain ⟨_, oj, hoj, hall⟩ := mem_ready.1 hi
    rw [hoj] at hy
    cases hy
    exact mono _ (hall e he hb)
  · rw [getD_set_ne false hiy] at hl
    exact mono _ (h y oy hy hl e he hb)

theorem Cl.preds {listed : Array Bool} {j : Nat} (h : Cl ops listed) (hl : listed.getD j false = true) : ∀ x ∈ preds ops j, listed.getD x false = true := by
  intro x hx
  unfold Eng.preds at hx
  split at hx
  · cases hx
  · rename_i o ho
    obtain ⟨e, he, rfl⟩ := List.mem_map.1 hx
    rw [List.mem_filter] at he
    exact h j o ho hl e (by simpa using he.1) he.2

theorem Cl.sweep {listed : Array Bool} (h : Cl ops listed) : ∀ (n : Nat) (S : List Nat), (∀ x ∈ S, listed.getD x false = true) → ∀ x ∈ sweep ops n S, listed.getD x false = true
  | 0, _, hS => hS
  | n + 1, S, hS => by
    simp only [Eng.sweep]
    refine Cl.sweep h n _ ?_
    cases hm : memN S n with
    | false => exact hS
    | true =>
      intro x hx
      simp only [cond_true, List.mem_append] at hx
      exact hx.elim (h.preds (hS n (memN_iff.1 hm)) x) (hS x)

theorem late_of {i j : Nat} {oi : Oper} {listed : Array Bool} (hcl : Cl ops listed) (hi : ops[i]? = some oi) (hti : reads oi = true) (hir : i ∈ Region.ready .any ops listed) (hjr : j ∈ Region.ready .any ops listed) (hne : j ≠ i) : late ops j = true := by
  unfold late lateIn
  rw [List.any_eq_true]
  refine ⟨i, List.mem_range.2 (Array.getElem?_eq_some_iff.1 hi).1, ?_⟩
  simp only [readsI, hi, hti, Bool.and_true, Bool.and_eq_true, Bool.not_eq_true']
  refine ⟨?_, ?_⟩
  · cases h : Nat.beq i j with
    | false => rfl
    | true => exact absurd (beq_iff.1 h).symm hne
  · cases hp : memN (ances ops j) i with
    | false => rfl
    | true =>
      exfalso
      obtain ⟨_, oj, hoj, hall⟩ := mem_ready.1 hjr
      have h0 := (mem_ready.1 hir).1
      have hl : listed.getD i false = true := by
        refine hcl.sweep ops.size (preds ops j) (fun x hx => ?_) i (memN_iff.1 hp)
        unfold preds at hx
        simp only [hoj] at hx
        obtain ⟨e, he, rfl⟩ := List.mem_map.1 hx
        rw [List.mem_filter] at he
        exact hall e (by simpa using he.1) he.2
      rcases Nat.lt_or_ge i listed.size with h' | h'
      · simp [h'] at h0 hl; rw [h0] at hl; cases hl
      · rw [Array.getD_eq_getD_getElem?, Array.getElem?_eq_none h'] at hl; cases hl

theorem wpAnyT_first {i : Nat} {oi : Oper} {v : Value} (hi : ops[i]? = some oi) (hsel : ∀ (j : Nat) (o : Oper) cs b, ops[j]? = some o → o.op ≠ .select cs b)
    (hQ : ∀ c a w, Q (.panic c) (a.put oi.dst v) w → Q (.panic c) a w) :
    ∀ (fuel : Nat) (listed : Array Bool) (a : Act) (w : World),
      (∀ j oj, ops[j]? = some oj → j ≠ i → listed.getD j true = false → (∀ e ∈ oj.after, Region.binds .any e = true → e.on ≠ i) → oi.apart ops oj = true) →
      Cl ops listed → i ∈ Region.ready .any ops listed → YieldsIf P ops (fun w => reads oi = true → S w) oi v a → (reads oi = true → S w) →
      wpAnyT P ops Q S fuel (listed.setIfInBounds i true) (a.put oi.dst v) w → wpAnyT P ops Q S (fuel + 1) listed a w := by
  intro fuel
  induction fuel with
  | zero =>
    intro listed a w _ _ hr hy hS H
    refine ⟨fun h => (by rw [h] at hr; cases hr), fun j hj => ?_⟩
    by_cases hji : j = i
    · subst hji; exact yieldsR hi hy hS ⟨fun _ h => h, H⟩
    · have := ready_mono hj hji
      rw [H.1] at this
      cases this
  | succ fuel ih =>
    intro listed a w hfree hcl hr hy hS H
    refine ⟨fun h => (by rw [h] at hr; cases hr), fun j hj => ?_⟩
    by_cases hji : j = i
    · subst hji; exact yieldsR hi hy hS ⟨fun _ h => h, H⟩
    · have h1 := H.2 j (ready_mono hj hji)
      obtain ⟨hjun, oj, hoj, hall⟩ := mem_ready.1 hj
      have hnot : ∀ e ∈ oj.after, Region.binds .any e = true → e.on ≠ i := fun e he hb heq => by
        have h1 := hall e he hb
        have h0 := (mem_ready.1 hr).1
        rw [heq] at h1
        rcases Nat.lt_or_ge i listed.size with h' | h'
        · simp [h'] at h0 h1; rw [h0] at h1; cases h1
        · simp [Array.getElem?_eq_none h'] at h1
      have h2 := wpOpR_put hoj (hfree j oj hoj hji hjun hnot) (fun cs b => hsel i oi cs b hi) (fun cs b => hsel j oj cs b hoj) hQ hy h1
      have hfree' : ∀ k ok, ops[k]? = some ok → k ≠ i → (listed.setIfInBounds j true).getD k true = false →
          (∀ e ∈ ok.after, Region.binds .any e = true → e.on ≠ i) → oi.apart ops ok = true := fun k ok hk hki hun hno => by
        refine hfree k ok hk hki ?_ hno
        by_cases hjk : j = k
        · subst hjk; exact hjun
        · rw [getD_set_ne true hjk] at hun; exact hun
      refine wpOpR_mono (fun a' w' h3 => ⟨h3.2.1, ih (listed.setIfInBounds j true) a' w' hfree' (hcl.set hj) (ready_mono hr (Ne.symm hji)) h3.1 (fun hrd => h3.2.1 (late_of hcl hi hrd hr hj hji) (hS hrd)) ?_⟩) h2
      rw [Array.setIfInBounds_comm _ _ hji]
      exact h3.2.2

end

/-! ### what a reading operation yields, in every world that shows the same -/
section
variable {E : Env} {C : Ctx} {a : Act} {wa : World} {st : St} {u u0 : UW} {θ : Nat → Nat} {fz : List Nat} {o : Oper} {K : St → UW → Prop}

/-- The worlds that show what u0 shows, the private boxes as they are. -/
structure Shows (u0 : UW) (st : St) (θ : Nat → Nat) (w : World) : Prop where
  sees : Sees u0.toWorld w
  boxes : ∀ k m, (k, m) ∈ st.D → ∃ c T, w.heap[θ k]? = some (.cells c T (0, 0)) ∧ c.size = m ∧ ∀ j, j < m → R θ (st.σ (gx k j)) (c.getD j undef)

def Tk (E : Env) (a : Act) (o : Oper) (st : St) (u0 : UW) (θ : Nat → Nat) (K : St → UW → Prop) : Prop :=
  ∃ v r, R θ v r ∧ (∀ k o, v = fake k o → ∃ m, (k, m) ∈ st.D) ∧ K (fin o st v) u0 ∧ ∀ w, (reads o = true → Shows u0 st θ w) → (execOp a.eval o).run E.P w = .ok (.value r) w

theorem tkP {v : Value} (hp : plain v = true) (hK : K (fin o st v) u0) (hr : ∀ w, (reads o = true → Shows u0 st θ w) → (execOp a.eval o).run E.P w = .ok (.value v) w) : Tk E a o st u0 θ K :=
  ⟨v, v, R_refl hp, fun k o e => absurd e (not_fake hp k o), hK, hr⟩

theorem tk_fake {k off : Nat} (hm : ∃ m, (k, m) ∈ st.D) (hK : K (fin o st (fake k off)) u0) (hr : ∀ w, (reads o = true → Shows u0 st θ w) → (execOp a.eval o).run E.P w = .ok (.value (.pointer (some ⟨θ k, off, none⟩))) w) : Tk E a o st u0 θ K :=
  ⟨fake k off, _, rfl, fun k' o' e => (by simp only [Value.complex.injEq, true_and] at e; rw [← e.1]; exact hm), hK, hr⟩

theorem t_slice {t : TypeId} {x : Operand} {lo hi mx : Option Operand}
    (h : match E.P.underlying t, ev st.σ x with
      | some (.slice e), .slice b len cap => (match optInt (ev st.σ) lo 0, optInt (ev st.σ) hi len, optInt (ev st.σ) mx cap with
        | some l, some h, some m => (bif (mx.isSome && hi.isNone) || (E.P.info? e).isNone then False else (m.toNat = l.toNat ∨ noSpot b) ∧ 0 ≤ l ∧ l ≤ h ∧ h ≤ m ∧ m ≤ cap ∧ K (fin o st (.slice (slA b l.toNat m.toNat (E.P.cellsOf e)) (h.toNat - l.toNat) (m.toNat - l.toNat))) u0)
        | _, _, _ => False)
      | some .string, .string s => (match mx with
        | some _ => False
        | none => match optInt (ev st.σ) lo 0, optInt (ev st.σ) hi s.size with
          | some l, some h => 0 ≤ l ∧ l ≤ h ∧ h ≤ s.size ∧ K (fin o st (.string (s.extract l.toNat h.toNat))) u0
          | _, _ => False)
      | _, _ => False) (ho : o.op = .slice t x lo hi mx) (hok : okOper C.n o = true) (hI : Inv C a wa st u θ) : Tk E a o st u0 θ K := by
  have hx : okOp C.n x = true := opd hok (by simp [ho, Op.operands])
  have hev : ∀ y k i, (lo = some y ∨ hi = some y ∨ mx = some y) → ev st.σ y = .int k i → a.eval y = .int k i := by
    intro y k i hy he
    refine ev_val hI (opd hok ?_) he rfl
    rcases hy with rfl | rfl | rfl <;> simp [ho, Op.operands]
  split at h
  · rename_i e b len cap hu he
    split at h
    · rename_i l h' m hl hh hm
      cases hbad' : (mx.isSome && hi.isNone) || (E.P.info? e).isNone with
      | true => simp only [hbad', cond_true] at h
      | false =>
        simp only [hbad', cond_false] at h
        simp only [Bool.or_eq_false_iff] at hbad'
        obtain ⟨hbad, hie⟩ := hbad'
        obtain ⟨i, hi'⟩ : ∃ i, E.P.info? e = some i := by cases hq : E.P.info? e <;> simp_all
        obtain ⟨hns, h0, h1, h2, h3, hK⟩ := h
        refine tkP rfl hK fun w _ => ?_
        simp only [execOp, ho, ev_val hI hx he rfl, Sem.run_bind, Instr.sliceAt, run_under hu, Result.andThen_ok, Instr.slice, run_bounds hev hl hh hm hbad h0 h1 h2 h3, run_size hi', Sem.run_pure]
        congr 3
        unfold slA
        split
        · rfl
        · rename_i hml
          cases b with
          | none => rfl
          | some b =>
            simp only [Option.map_some, Option.some.injEq]
            unfold Addr.add
            split
            · rename_i h0'
              obtain ⟨bb, bo, bs⟩ := b
              have := (hns.resolve_left hml) _ rfl
              simp only at this
              subst this
              simp [h0']
            · rfl
    · exact h.elim
  · rename_i s hu he
    cases mx with
    | some _ => exact h.elim
    | none =>
      simp only at h
      split at h
      · rename_i l h' hl hh
        obtain ⟨h0, h1, h2, hK⟩ := h
        refine tkP rfl hK fun w _ => ?_
        have hb := run_bounds (P := E.P) (w := w) (isS := false) (len := s.size) (cap := s.size) (mx := none) (m := s.size) (fun y k i hy => hev y k i (by rcases hy with h | h | h; exact .inl h; exact .inr (.inl h); cases h)) hl hh rfl (by simp) h0 h1 h2 (by omega)
        simp only [execOp, ho, ev_val hI hx he rfl, Sem.run_bind, Instr.sliceAt, run_under hu, Result.andThen_ok, Instr.slice]
        simp only [Option.map_none] at hb
        simp only [Option.map_none, Option.isSome_none, Bool.false_eq_true, if_false, Sem.run_bind, hb, Result.andThen_ok, Sem.run_pure]
      · exact h.elim
  · exact h.elim


theorem t_fld {t : TypeId} {x : Operand} {f : Nat}
    (h : match ev st.σ x with
      | .agg cs => (match fldV E.P t f cs.toList with
        | some v => bif plain v then K (fin o st v) u0 else False
        | none => False)
      | _ => False) (ho : o.op = .field t x f) (hok : okOper C.n o = true) (hI : Inv C a wa st u θ) : Tk E a o st u0 θ K := by
  have hx : okOp C.n x = true := opd hok (by simp [ho, Op.operands])
  split at h
  · rename_i cs he
    cases hv : fldV E.P t f cs.toList with
    | none => simp only [hv] at h
    | some v =>
      simp only [hv] at h
      obtain ⟨hpv, h⟩ := bif_elim h
      refine tkP hpv h fun w _ => ?_
      unfold fldV at hv
      cases hu : E.P.underlying t with
      | none => simp [hu] at hv
      | some D =>
        cases D <;> simp only [hu] at hv <;> try (cases hv; done)
        rename_i fs
        cases hf : fs[f]? with
        | none => simp [hf] at hv
        | some y =>
          simp only [hf, Bool.cond_eq_ite, Bool.and_eq_true, Nat.ble_eq] at hv
          split at hv
          · rename_i hc
            obtain ⟨hi, hle⟩ := hc
            obtain ⟨d, hud⟩ := Option.isSome_iff_exists.1 hi
            simp only [execOp, ho, ev_val hI hx he rfl, Instr.field, Sem.run_bind, run_under hu, Result.andThen_ok, hf, asAgg, Sem.run_pure]
            split at hv
            · rename_i hag
              simp only [Option.some.injEq] at hv
              rw [run_part_agg hud hag, ← hv]
              simp only [Result.andThen_ok]
              congr 3
              apply Array.toList_inj.1
              rw [Array.toList_extract, List.extract_eq_take_drop]
              simp
            · rename_i hag
              simp only [Bool.not_eq_true] at hag
              rw [run_part_one hud hag (v := v) (by simpa using hv)]
              rfl
          · cases hv
  · exact h.elim


theorem t_bi {b : Builtin} {args : Array Operand} {ts : Array TypeId} (ht : takeable o = true) (h : W1b E o st u0 b args.toList ts.toList K) (ho : o.op = .call ⟨.builtin b, args, ts⟩) (hok : okOper C.n o = true) (hI : Inv C a wa st u θ) : Tk E a o st u0 θ K := by
  have ka : ∀ x ∈ args.toList, okOp C.n x = true := fun x hx => opd hok (by simp [ho, Op.operands, Call.operands]; simpa using hx)
  obtain ⟨args⟩ := args
  obtain ⟨ts⟩ := ts
  simp only at h ka
  unfold W1b at h
  split at h
  · rename_i x t
    have kx := ka x (by simp)
    split at h
    · rename_i n c hu he
      refine tkP rfl h fun w _ => ?_
      refine run_builtin (s := Builtin.len_ #[t] o.type #[a.eval x]) ho (fun _ => by simp [builtin]) ?_
      simp [Builtin.len_, run_under hu, ev_val hI kx he rfl, goInt]
    · rename_i s hu he
      refine tkP rfl h fun w _ => ?_
      refine run_builtin (s := Builtin.len_ #[t] o.type #[a.eval x]) ho (fun _ => by simp [builtin]) ?_
      simp [Builtin.len_, run_under hu, ev_val hI kx he rfl, goInt]
    · rename_i n e hu
      obtain ⟨_, h⟩ := bif_elim h
      refine tkP rfl h fun w _ => ?_
      refine run_builtin (s := Builtin.len_ #[t] o.type #[a.eval x]) ho (fun _ => by simp [builtin]) ?_
      simp [Builtin.len_, run_under hu, goInt]
    · exact h.elim
  · rename_i x y t t'
    simp [takeable, ho] at ht
  · split at h
    · rename_i k i is hi
      refine tkP rfl h fun w _ => ?_
      obtain ⟨he, _⟩ := ints_eq hI ka hi
      refine run_builtin (s := (is.map (Value.int k)).foldlM Builtin.min2 (.int k i)) ho (fun _ => ?_) (run_min is i)
      simp only [builtin, Builtin.min_, List.map_toArray, he, List.map_cons]
    · exact h.elim
  · split at h
    · rename_i k i is hi
      refine tkP rfl h fun w _ => ?_
      obtain ⟨he, _⟩ := ints_eq hI ka hi
      refine run_builtin (s := (is.map (Value.int k)).foldlM Builtin.max2 (.int k i)) ho (fun _ => ?_) (run_max is i)
      simp only [builtin, Builtin.max_, List.map_toArray, he, List.map_cons]
    · exact h.elim
  · exact h.elim


/-- Of W1 at an operation that only reads. -/
theorem W1_take (ht : takeable o = true) (hok : okOper C.n o = true) (hI : Inv C a wa st u θ) (h : W1 E fz o st u0 K) : Tk E a o st u0 θ K := by
  have op1 : ∀ {x : Operand}, x ∈ o.op.operands → okOp C.n x = true := fun hx => opd hok hx
  cases ho : o.op with
  | move x =>
    simp only [W1, ho] at h
    have hx := op1 (x := x) (by simp [ho, Op.operands])
    exact ⟨_, _, ev_R hI hx, fun k o' e => (ev_fk hI hx e).2, h, fun w _ => by simp [execOp, ho]⟩
  | assign x =>
    simp only [W1, ho] at h
    have hx := op1 (x := x) (by simp [ho, Op.operands])
    exact ⟨_, _, ev_R hI hx, fun k o' e => (ev_fk hI hx e).2, h, fun w _ => by simp [execOp, ho]⟩
  | pick c x y =>
    simp only [W1, ho] at h
    have hx := op1 (x := x) (by simp [ho, Op.operands])
    have hy := op1 (x := y) (by simp [ho, Op.operands])
    have hc := op1 (x := c) (by simp [ho, Op.operands])
    split at h
    · rename_i t hct
      have hec := ev_val hI hc hct rfl
      cases t with
      | true => exact ⟨_, _, ev_R hI hx, fun k o' e => (ev_fk hI hx e).2, h, fun w _ => by simp [execOp, ho, hec, asBool]⟩
      | false => exact ⟨_, _, ev_R hI hy, fun k o' e => (ev_fk hI hy e).2, h, fun w _ => by simp [execOp, ho, hec, asBool]⟩
    · exact h.elim
  | build t ps =>
    simp only [W1, ho] at h
    obtain ⟨hp, h⟩ := bif_elim h
    have hx : ∀ x ∈ ps.toList, okOp C.n x.2 = true := fun x hx => opd hok (by simp only [ho, Op.operands]; simp only [List.mem_toArray, List.mem_map]; exact ⟨x, hx, rfl⟩)
    cases hb : bld E.P t (ps.toList.map fun p => (p.1, ev st.σ p.2)) with
    | none => simp only [hb] at h
    | some vs =>
      simp only [hb] at h
      refine tkP rfl h fun w _ => ?_
      have e := pairs_eq hI hx hp
      simp only [execOp, ho, e, Sem.run_bind]
      rw [run_build (r := vs) (by simpa using hb)]
      rfl
  | load t x =>
    simp only [W1, ho] at h
    have hx := op1 (x := x) (by simp [ho, Op.operands])
    cases hk : kinds E.P t with
    | none => simp only [hk] at h
    | some ks =>
      simp only [hk] at h
      obtain ⟨hl1, ⟨d, hu⟩, hl2⟩ := kinds_spec hk
      split at h
      · rename_i k off he
        cases hb : boxSize st.D k with
        | none => simp only [hb] at h
        | some m =>
          simp only [hb] at h
          obtain ⟨hc, h⟩ := bif_elim h
          simp only [Bool.and_eq_true, Nat.ble_eq] at hc
          obtain ⟨h1, h2⟩ := hc
          have hp := all_plain h2
          have hev := (ev_fk hI hx he).1
          refine tkP (mkV_plain hp (hl2.imp id fun h => by rw [rdG_length]; exact h)) h fun w hw => ?_
          obtain ⟨c, T, b1, b2, b3⟩ := (hw (by simp [reads, ho])).boxes k m (boxSize_mem hb)
          have hlist := cells_drop_take b2 b3 ks.length off h1 hp
          simp only [execOp, ho, hev, Instr.loadAt, Instr.sureAddr, Sem.run_bind, Sem.run_pure, Result.andThen_ok]
          rw [run_loadVar hk b1 (by omega), hlist]
          rfl
      · obtain ⟨b, off, hv, h⟩ := withPtr_elim h
        obtain ⟨vs, hlen, hp, hrd, h⟩ := exL_elim h
        have hev := ev_val hI hx hv rfl
        by_cases hz : ks.length = 0
        · have hag : aggT E.P t = true := hl2.resolve_right (by omega)
          have hvs : vs = [] := List.eq_nil_of_length_eq_zero (by omega)
          subst hvs
          obtain ⟨i, hi⟩ := info_of_under hu
          refine tkP (by rw [hag]; rfl) h fun w _ => ?_
          simp only [execOp, ho, hev, Instr.loadAt, Instr.sureAddr, Sem.run_bind, Sem.run_pure, Result.andThen_ok, loadVar, run_isAgg hu, hag, if_true, run_size hi, ← hl1, hz]
          rfl
        · refine tkP (mkV_plain hp (hl2.imp id fun h => by omega)) h fun w hw => ?_
          obtain ⟨c, T, f, c1, c2, c3⟩ := rd_sees (hw (by simp [reads, ho])).sees hrd hz
          simp only [execOp, ho, hev, Instr.loadAt, Instr.sureAddr, Sem.run_bind, Sem.run_pure, Result.andThen_ok]
          rw [run_loadVar hk c1 c2, ← c3]
          rfl
  | nilCheck x =>
    simp only [W1, ho] at h
    have hx := op1 (x := x) (by simp [ho, Op.operands])
    split at h
    · rename_i k off he
      obtain ⟨hev, hm⟩ := ev_fk hI hx he
      exact tk_fake hm h fun w _ => by simp [execOp, ho, hev]
    · rename_i p he
      have hev := ev_val hI hx he rfl
      cases p with
      | none => exact h.elim
      | some p => exact tkP rfl h fun w _ => by simp [execOp, ho, hev]
    · rename_i f p q he
      have hev := ev_val hI hx he rfl
      cases f with
      | method n => exact h.elim
      | _ => exact tkP rfl h (fun w _ => by simp [execOp, ho, hev])
    · exact h.elim
  | binOp op t x y t' =>
    simp only [W1, ho] at h
    have hx := op1 (x := x) (by simp [ho, Op.operands])
    have hy := op1 (x := y) (by simp [ho, Op.operands])
    obtain ⟨px, py, v, hp, hK, hall⟩ := cBin_sound h x y
    refine tkP hp hK fun w _ => ?_
    simp only [execOp, ho]
    rw [ev_eq hI hx px, ev_eq hI hy py]
    rw [Sem.run_bind, hall w]
    rfl
  | unOp op t x =>
    simp only [W1, ho] at h
    have hx := op1 (x := x) (by simp [ho, Op.operands])
    split at h
    · rename_i b he
      exact tkP rfl h fun w _ => by simp [execOp, ho, ev_val hI hx he rfl, Op.unary]
    · rename_i k n he
      exact tkP rfl h fun w _ => by simp [execOp, ho, ev_val hI hx he rfl, Op.unary, Op.intArith]
    · exact h.elim
  | convert s d x =>
    simp only [W1, ho] at h
    have hx := op1 (x := x) (by simp [ho, Op.operands])
    obtain ⟨hp, h⟩ := bif_elim h
    cases hv : pv E.P (convert s d (ev st.σ x)) with
    | none => simp only [hv] at h
    | some v =>
      simp only [hv] at h
      obtain ⟨hpv, h⟩ := bif_elim h
      refine tkP hpv h fun w _ => ?_
      simp only [execOp, ho, ev_eq hI hx hp, Sem.run_bind, pv_run hv w]
      rfl
  | makeInterface t x =>
    simp only [W1, ho] at h
    have hx := op1 (x := x) (by simp [ho, Op.operands])
    obtain ⟨hp, h⟩ := bif_elim h
    cases hv : pv E.P (Instr.makeInterface t (ev st.σ x)) with
    | none => simp only [hv] at h
    | some v =>
      simp only [hv] at h
      obtain ⟨hpv, h⟩ := bif_elim h
      refine tkP hpv h fun w _ => ?_
      simp only [execOp, ho, ev_eq hI hx hp, Sem.run_bind, pv_run hv w]
      rfl
  | makeFunc fn first captured =>
    simp only [W1, ho] at h
    obtain ⟨hc, h⟩ := bif_elim h
    simp only [Bool.and_eq_true] at hc
    have h1 : ∀ x ∈ first.toList, okOp C.n x = true := fun x hx => opd hok (by simp [ho, Op.operands]; left; simpa using hx)
    have h2 : ∀ x ∈ captured.toList, okOp C.n x = true := fun x hx => opd hok (by simp [ho, Op.operands]; right; simpa using hx)
    refine tkP rfl h fun w _ => ?_
    simp only [execOp, ho, arr_evs hI h1 hc.1, arr_evs hI h2 hc.2, Instr.makeFunc]
    rfl
  | slice t x lo hi mx =>
    simp only [W1, ho] at h
    exact t_slice h ho hok hI
  | fieldAddr t x f =>
    simp only [W1, ho] at h
    have hx := op1 (x := x) (by simp [ho, Op.operands])
    cases hd : fOff E.P t f with
    | none => simp only [hd] at h
    | some d =>
      simp only [hd] at h
      split at h
      · rename_i k off he
        obtain ⟨hev, hm⟩ := ev_fk hI hx he
        exact tk_fake hm h fun w _ => by simp only [execOp, ho, hev, Sem.run_bind, run_fieldAt hd]; rfl
      · obtain ⟨b, off, hv, h⟩ := withPtr_elim h
        have hev := ev_val hI hx hv rfl
        exact tkP rfl h fun w _ => by simp only [execOp, ho, hev, Sem.run_bind, run_fieldAt hd]; rfl
  | field t x f => simp only [W1, ho] at h; exact t_fld h ho hok hI
  | indexAddr t x i =>
    simp only [W1, ho] at h
    have hx := op1 (x := x) (by simp [ho, Op.operands])
    have hi := op1 (x := i) (by simp [ho, Op.operands])
    split at h
    · rename_i e b len c k j hu he hei
      obtain ⟨hin, h⟩ := bif_elim h
      obtain ⟨ie, hie⟩ := Option.isSome_iff_exists.1 hin
      obtain ⟨bb, off, rfl, h1, h2, h⟩ := withSl_elim h
      refine tkP rfl h fun w _ => ?_
      simp only [execOp, ho, ev_val hI hx he rfl, ev_val hI hi hei rfl, Instr.indexAt, asIntOf, Sem.run_bind, Sem.run_pure, Result.andThen_ok, run_under hu]
      rw [if_pos ⟨h1, h2⟩]
      simp only [Sem.run_bind, run_size hie, Result.andThen_ok, Sem.run_pure, add_addr]
    · rename_i len e k off kk j hu he hei
      obtain ⟨hc, h⟩ := bif_elim h
      simp only [Bool.and_eq_true, decide_eq_true_eq] at hc
      obtain ⟨⟨h1, h2⟩, hin⟩ := hc
      obtain ⟨ie, hie⟩ := Option.isSome_iff_exists.1 hin
      obtain ⟨hev, hm⟩ := ev_fk hI hx he
      refine tk_fake hm h fun w _ => ?_
      simp only [execOp, ho, hev, ev_val hI hi hei rfl, Instr.indexAt, asIntOf, Sem.run_bind, Sem.run_pure, Result.andThen_ok, run_under hu, Instr.sureAddr]
      rw [if_pos ⟨h1, h2⟩]
      simp only [Sem.run_bind, run_size hie, Result.andThen_ok, Sem.run_pure, add_addr]
    · exact h.elim
  | index t x i =>
    simp only [W1, ho] at h
    have hx := op1 (x := x) (by simp [ho, Op.operands])
    have hi := op1 (x := i) (by simp [ho, Op.operands])
    split at h
    · rename_i s k j hu he hei
      obtain ⟨h1, c, h2, h⟩ := h
      refine tkP rfl h fun w _ => ?_
      simp only [execOp, ho, ev_val hI hx he rfl, ev_val hI hi hei rfl, Instr.index, asIntOf, Sem.run_bind, Sem.run_pure, Result.andThen_ok, run_under hu, if_pos h1, h2]
    · rename_i len e cs k j hu he hei
      obtain ⟨h1, h2, hin, v, hv, hpv, h⟩ := h
      obtain ⟨ie, hie⟩ := Option.isSome_iff_exists.1 hin
      refine tkP hpv h fun w _ => ?_
      simp only [execOp, ho, ev_val hI hx he rfl, ev_val hI hi hei rfl, Instr.index, asIntOf, Sem.run_bind, Sem.run_pure, Result.andThen_ok, run_under hu, if_pos (show (0 : Int) ≤ j ∧ j < len from ⟨h1, h2⟩), run_size hie]
      rw [run_elt hv]; rfl
    · exact h.elim
  | extract x i =>
    simp only [W1, ho] at h
    have hx := op1 (x := x) (by simp [ho, Op.operands])
    split at h
    · rename_i vs he
      cases hv : vs[i]? with
      | none => simp only [hv] at h
      | some v =>
        simp only [hv] at h
        obtain ⟨hpv, h⟩ := bif_elim h
        exact tkP hpv h fun w _ => by simp [execOp, ho, ev_val hI hx he rfl, Instr.extract, hv]
    · exact h.elim
  | call c =>
    simp only [W1, ho] at h
    obtain ⟨callee, args, ts⟩ := c
    cases callee with
    | builtin b => simp only at h; exact t_bi ht h ho hok hI
    | value f => simp [takeable, ho] at ht
    | invoke r m => simp [takeable, ho] at ht
  | _ => simp [takeable, ho] at ht


theorem findTake_spec {ops : Array Oper} {listed : Array Bool} {j : Nat} : ∀ l : List Nat, findTake ops listed l = some j → j ∈ l ∧ ∃ oj, ops[j]? = some oj ∧ takeable oj = true ∧ Region.free .any ops listed j = true := by
  intro l
  induction l with
  | nil => intro h; simp [findTake] at h
  | cons x l ih =>
    intro h
    simp only [findTake] at h
    cases hx : ops[x]? with
    | none =>
      simp only [hx, Bool.false_and, cond_false] at h
      obtain ⟨h1, h2⟩ := ih h; exact ⟨by simp [h1], h2⟩
    | some ox =>
      simp only [hx] at h
      cases hc : takeable ox && Region.free .any ops listed x with
      | true =>
        simp only [hc, cond_true, Option.some.injEq] at h
        subst h
        simp only [Bool.and_eq_true] at hc
        exact ⟨by simp, ox, hx, hc.1, hc.2⟩
      | false =>
        simp only [hc, cond_false] at h
        obtain ⟨h1, h2⟩ := ih h; exact ⟨by simp [h1], h2⟩

/-- What a plan's first step says. -/
inductive PS (ops : Array Oper) (listed : Array Bool) : Nat → Plan → Prop
  | nil (f : Nat) (h : Region.ready .any ops listed = []) : PS ops listed f .nil
  | tk (f j : Nat) (p : Plan) (oj : Oper) (ho : ops[j]? = some oj) (ht : takeable oj = true) (hf : Region.free .any ops listed j = true) (hr : j ∈ Region.ready .any ops listed) (hp : planF ops f (listed.setIfInBounds j true) = some p) : PS ops listed (f + 1) (.tk j p)
  | ef (f i : Nat) (p : Plan) (hr : Region.ready .any ops listed = [i]) (h1 : okAfter ops i p = true) (hp : planF ops f (listed.setIfInBounds i true) = some p) : PS ops listed (f + 1) (.ef i p)
  | ef2 (f i j : Nat) (p q : Plan) (hr : Region.ready .any ops listed = [i, j]) (h1 : okAfter ops i p = true) (h2 : okAfter ops j q = true) (hp : planF ops f (listed.setIfInBounds i true) = some p) (hq : planF ops f (listed.setIfInBounds j true) = some q) : PS ops listed (f + 1) (.ef2 i p j q)
  | ef3 (f i j k : Nat) (p q r : Plan) (hr : Region.ready .any ops listed = [i, j, k]) (h1 : okAfter ops i p = true) (h2 : okAfter ops j q = true) (h3 : okAfter ops k r = true) (hp : planF ops f (listed.setIfInBounds i true) = some p) (hq : planF ops f (listed.setIfInBounds j true) = some q) (hrr : planF ops f (listed.setIfInBounds k true) = some r) : PS ops listed (f + 1) (.ef3 i p j q k r)

theorem planF_spec : ∀ (f : Nat) (listed : Array Bool) (p : Plan) (ops : Array Oper), planF ops f listed = some p → PS ops listed f p
  | 0, listed, p, ops, h => by
    simp only [planF] at h
    cases hr : Region.ready .any ops listed with
    | nil => simp only [hr, Option.some.injEq] at h; subst h; exact .nil 0 hr
    | cons i rs => simp [hr] at h
  | f + 1, listed, p, ops, h => by
    simp only [planF] at h
    cases hr : Region.ready .any ops listed with
    | nil => simp only [hr, Option.some.injEq] at h; subst h; exact .nil _ hr
    | cons i rs =>
      simp only [hr] at h
      cases hf : findTake ops listed (i :: rs) with
      | some j =>
        simp only [hf] at h
        obtain ⟨hmem, oj, ho, htk, hfr⟩ := findTake_spec _ hf
        cases hp : planF ops f (listed.setIfInBounds j true) with
        | none => simp [hp] at h
        | some p' =>
          simp only [hp, Option.some.injEq] at h
          subst h
          exact .tk f j p' oj ho htk hfr (by rw [hr]; exact hmem) hp
      | none =>
        simp only [hf] at h
        match rs, hr, h with
        | [], hr, h =>
          cases hp : planF ops f (listed.setIfInBounds i true) with
          | none => simp [hp] at h
          | some p' =>
            simp only [hp] at h
            cases hc : okAfter ops i p' with
            | false => simp [hc] at h
            | true => simp only [hc, cond_true, Option.some.injEq] at h; subst h; exact .ef f i p' hr hc hp
        | [j], hr, h =>
          cases hp : planF ops f (listed.setIfInBounds i true) with
          | none => simp [hp] at h
          | some p' =>
            cases hq : planF ops f (listed.setIfInBounds j true) with
            | none => simp [hp, hq] at h
            | some q' =>
              simp only [hp, hq] at h
              cases hc : okAfter ops i p' && okAfter ops j q' with
              | false => simp [hc] at h
              | true =>
                simp only [hc, cond_true, Option.some.injEq] at h; subst h
                simp only [Bool.and_eq_true] at hc
                exact .ef2 f i j p' q' hr hc.1 hc.2 hp hq
        | [j, k], hr, h =>
          cases hp : planF ops f (listed.setIfInBounds i true) with
          | none => simp [hp] at h
          | some p' =>
            cases hq : planF ops f (listed.setIfInBounds j true) with
            | none => simp [hp, hq] at h
            | some q' =>
              cases hrr : planF ops f (listed.setIfInBounds k true) with
              | none => simp [hp, hq, hrr] at h
              | some r' =>
                simp only [hp, hq, hrr] at h
                cases hc : okAfter ops i p' && okAfter ops j q' && okAfter ops k r' with
                | false => simp [hc] at h
                | true =>
                  simp only [hc, cond_true, Option.some.injEq] at h; subst h
                  simp only [Bool.and_eq_true] at hc
                  exact .ef3 f i j k p' q' r' hr hc.1.1 hc.1.2 hc.2 hp hq hrr
        | _ :: _ :: _ :: _, _, h => simp at h

/-- The state through a region: as it was at its head, as far as private boxes go. -/
structure Syn (st0 : St) (θ0 : Nat → Nat) (st : St) (θ : Nat → Nat) : Prop where
  D : st.D = st0.D
  θ : ∀ k m, (k, m) ∈ st0.D → θ k = θ0 k
  gh : ∀ k m, (k, m) ∈ st0.D → ∀ j, j < m → st.σ (gx k j) = st0.σ (gx k j)

theorem R_same {θ θ' : Nat → Nat} {v r : Value} (hnf : ∀ k o, v ≠ fake k o) : R θ v r → R θ' v r := fun h => R_congr h fun k o e => absurd e (hnf k o)

theorem shows_iff {st0 st : St} {θ0 θ : Nat → Nat} (hs : Syn st0 θ0 st θ) (hg : ∀ k m, (k, m) ∈ st0.D → ∀ j, j < m → ∀ k' o, st0.σ (gx k j) ≠ fake k' o) (w : World) : Shows u0 st0 θ0 w ↔ Shows u0 st θ w := by
  constructor
  · rintro ⟨h1, h2⟩
    refine ⟨h1, fun k m hk => ?_⟩
    rw [hs.D] at hk
    obtain ⟨c, T, e1, e2, e3⟩ := h2 k m hk
    exact ⟨c, T, by rw [hs.θ k m hk]; exact e1, e2, fun j hj => by rw [hs.gh k m hk j hj]; exact R_same (hg k m hk j hj) (e3 j hj)⟩
  · rintro ⟨h1, h2⟩
    refine ⟨h1, fun k m hk => ?_⟩
    obtain ⟨c, T, e1, e2, e3⟩ := h2 k m (hs.D ▸ hk)
    exact ⟨c, T, by rw [← hs.θ k m hk]; exact e1, e2, fun j hj => R_same (hg k m hk j hj) (by rw [← hs.gh k m hk j hj]; exact e3 j hj)⟩

theorem Inv.shows (hI : Inv C a wa st u θ) (hs : Same u0 u) : Shows u0 st θ wa := by
  refine ⟨⟨hI.below.os.trans hs.os, hI.below.tape.trans hs.tape, hI.below.output.trans hs.output, Nat.le_trans hs.size hI.below.size, fun b hb => ?_⟩, fun k m hk => ?_⟩
  · rw [← hs.block b hb]
    exact hI.below.block b (Nat.lt_of_lt_of_le hb hs.size)
  · obtain ⟨_, c, T, h1, h2, h3, _⟩ := hI.boxes k m hk
    exact ⟨c, T, h1, h2, h3⟩

def QN (Q : Act → World → Prop) : Exit → Act → World → Prop
  | .normal, a, w => Q a w
  | _, _, _ => False

theorem wd_guard {ops : Array Oper} {oj : Oper} {act skip : St → Prop} {G : Prop} (hok : ∀ o ∈ ops.toList, okOper C.n o = true) (hI : Inv C a wa st u θ) (h : guarded ops oj st act skip)
    (yes : Region.wanted oj (yielded ops a.tmps) = true → act st → G) (no : Region.wanted oj (yielded ops a.tmps) = false → skip st → G) : G := by
  unfold guarded at h
  cases hg : oj.guard with
  | none =>
    simp only [hg] at h
    exact yes (by simp [Region.wanted, hg]) h
  | some jb =>
    obtain ⟨x, b⟩ := jb
    simp only [hg] at h
    cases hgs : gslot ops x with
    | none => simp only [hgs] at h
    | some g =>
      simp only [hgs] at h
      have hgn : g < C.n := by
        unfold gslot at hgs
        cases hj : ops[x]? with
        | none => simp [hj] at hgs
        | some ox =>
          simp only [hj, Option.bind_some] at hgs
          exact dst_lt (hok ox (by have : ops.toList[x]? = some ox := by simpa using hj
                                   exact List.mem_of_getElem? this)) g hgs
      have hyl : yielded ops a.tmps x = match a.tmps.getD g undef with | .bool x => some x | _ => none := by
        unfold yielded
        unfold gslot at hgs
        rw [hgs, Option.bind_some, getD_some hI.size hgn]
        cases a.tmps.getD g undef <;> rfl
      have hslot := hI.slots g hgn
      split at h
      · rename_i c hc
        rw [hc, R_plain rfl] at hslot
        rw [hslot] at hyl
        have hw : Region.wanted oj (yielded ops a.tmps) = (c == b) := by
          simp only [Region.wanted, hg, hyl]
          cases c <;> cases b <;> rfl
        cases c with
        | true =>
          simp only [CIf] at h
          rw [upd_self hc] at h
          cases b with
          | true => exact yes hw h
          | false => exact no hw h
        | false =>
          simp only [CIf] at h
          rw [upd_self hc] at h
          cases b with
          | true => exact no hw h
          | false => exact yes hw h
      · rename_i vs hc
        rw [hc, R_plain rfl] at hslot
        rw [hslot] at hyl
        exact no (by simp [Region.wanted, hg, hyl]) h
      · exact h.elim

/-- The state goes on, or nobody reads any more. -/
def Sy (ops : Array Oper) (u0 : UW) (stH : St) (θ0 : Nat → Nat) (p : Plan) (st : St) (u : UW) (θ : Nat → Nat) : Prop := (Same u0 u ∧ Syn stH θ0 st θ) ∨ (anyTake ops p = false ∧ anyLate ops p = false)

theorem Syn.fin {stH : St} {θ0 : Nat → Nat} {oj : Oper} (hsyn : Syn stH θ0 st θ) (hoko : okOper C.n oj = true) (hI : Inv C a wa st u θ) (v : Value) : Syn stH θ0 (fin oj st v) θ := by
  refine ⟨hsyn.D, hsyn.θ, fun k m hk j hj => ?_⟩
  rw [← hsyn.gh k m hk j hj]
  simp only [Go.Eng.fin]
  cases hd : oj.dst with
  | none => rfl
  | some d =>
    simp only [put]
    have h1 := dst_lt hoko d hd
    rw [upd_ne _ _ (show gx k j ≠ d from fun e => absurd (Nat.lt_of_lt_of_le h1 hI.n_le) (Nat.not_lt.2 (e ▸ gx_ge k j)))]

theorem belowNext {a b c : World} (h : Below a.heap.size a b) (k : Below b.heap.size b c) : Below a.heap.size a c :=
  ⟨k.os.trans h.os, k.tape.trans h.tape, k.output.trans h.output, Nat.le_trans h.size k.size, fun i hi => (k.block i (Nat.lt_of_lt_of_le hi h.size)).trans (h.block i hi)⟩

theorem W1_new {fz fz' : List Nat} {o : Oper} {st : St} {u : UW} {K : St → UW → Prop} (hn : isNew o = true) (hp : privOp E.priv o = false) (h : W1 E fz o st u K) : W1 E fz' o st u fun st' u' => Below u.heap.size u.toWorld u'.toWorld ∧ K st' u' := by
  unfold isNew at hn
  unfold privOp at hp
  unfold W1 at h ⊢
  split at hn
  · rename_i t ho
    simp only [ho] at h hp ⊢
    cases hz : (E.P.info? t).bind (·.zero) with
    | none => rw [hz] at h; exact h.elim
    | some z =>
      rw [hz] at h
      simp only at h ⊢
      cases hd : o.dst with
      | none => rw [hd] at h; exact h.elim
      | some k =>
        rw [hd] at h hp
        simp only at h hp ⊢
        rw [hp] at h ⊢
        exact fun b w' hb => ⟨hb.below, h b w' hb⟩
  · rename_i t x ho
    simp only [ho] at h hp ⊢
    obtain ⟨h1, h⟩ := bif_elim h
    rw [h1]
    simp only [cond_true]
    cases hd : o.dst with
    | none => rw [hd] at h; exact h.elim
    | some k =>
      rw [hd] at h hp
      simp only at h hp ⊢
      rw [hp] at h ⊢
      exact fun b w' hb => ⟨hb.below, h b w' hb⟩
  · rename_i t len ps ho
    simp only [ho] at h ⊢
    obtain ⟨h1, h⟩ := bif_elim h
    rw [h1]
    simp only [cond_true]
    cases he : elemT E.P t with
    | none => rw [he] at h; exact h.elim
    | some e =>
      rw [he] at h
      simp only at h ⊢
      cases hb : bldL (E.P.cellsOf e) 0 (ps.toList.map fun p => (p.1, ev st.σ p.2)) with
      | none => rw [hb] at h; exact h.elim
      | some vs =>
        rw [hb] at h
        simp only at h ⊢
        obtain ⟨h2, h⟩ := bif_elim h
        rw [h2]
        exact fun b w' hb => ⟨hb.below, h b w' hb⟩
  · cases hn

theorem new_run {fz : List Nat} {o : Oper} {K : St → UW → Prop} (hn : isNew o = true) (hok : okOper C.n o = true) (hI : Inv C a wa st u θ) (h : W1 E fz o st u K) : ∃ v ob, (execOp a.eval o).run E.P wa = .ok (.value v) (wa.alloc ob) := by
  unfold isNew at hn
  unfold W1 at h
  split at hn
  · rename_i t ho
    simp only [ho] at h
    cases hz : (E.P.info? t).bind (·.zero) with
    | none => rw [hz] at h; exact h.elim
    | some z =>
      refine ⟨.pointer (some ⟨wa.heap.size, 0, none⟩), .cells z.cells t (0, 0), ?_⟩
      simp only [execOp, ho, Sem.run_bind, run_alloc hz, Result.andThen_ok]; rfl
  · rename_i t x ho
    simp only [ho] at h
    obtain ⟨h1, h⟩ := bif_elim h
    have hx : okOp C.n x = true := opd hok (by simp [ho, Op.operands])
    refine ⟨.pointer (some ⟨wa.heap.size, 0, none⟩), .cells (ev st.σ x).cells t (0, 0), ?_⟩
    simp only [execOp, ho, ev_val hI hx rfl h1, Sem.run_bind, run_box, Result.andThen_ok]; rfl
  · rename_i t len ps ho
    simp only [ho] at h
    exact run_bls ho hok hI h
  · cases hn

theorem Shows.alloc {stH : St} {θ0 : Nat → Nat} {w : World} (h : Shows u0 stH θ0 w) (ob : Obj) : Shows u0 stH θ0 (w.alloc ob) := by
  have hk : ∀ (b : Nat) (x : Obj), w.heap[b]? = some x → (w.alloc ob).heap[b]? = some x := fun b x hx => by
    have hlt := (Array.getElem?_eq_some_iff.1 hx).1
    simp only [World.alloc]
    rw [Array.getElem?_push, if_neg (by omega)]
    exact hx
  refine ⟨⟨h.sees.os, h.sees.tape, h.sees.output, ?_, fun b hb => ?_⟩, fun k m hm => ?_⟩
  · have := h.sees.size
    simp only [World.alloc, Array.size_push]; omega
  · rcases h.sees.block b hb with e | e
    · left
      have hlt : b < w.heap.size := Nat.lt_of_lt_of_le hb h.sees.size
      rw [e, hk b _ (Array.getElem?_eq_getElem hlt), Array.getElem?_eq_getElem hlt]
    · exact .inr e
  · obtain ⟨c, T, h1, h2, h3⟩ := h.boxes k m hm
    exact ⟨c, T, hk _ _ h1, h2, h3⟩

theorem stepE_sound {ws : List Nat} {ops : Array Oper} {stH st0 : St} {θ0 : Nat → Nat} {i : Nat} {p : Plan} {K : St → UW → Prop} {N : Act → World → Prop} {QQ : Act → World → Prop} (hok : ∀ o ∈ ops.toList, okOper C.n o = true) (hws : ∀ o ∈ ops.toList, ∀ t, o.dst = some t → t ∈ ws)
    (hgh : ∀ k m, (k, m) ∈ stH.D → ∀ j, j < m → ∀ k' o, stH.σ (gx k j) ≠ fake k' o) (hI : Inv C a wa st u θ) (hP : Pres C.n fz ws st0 st) (hS : (Same u0 u ∧ Syn stH θ0 st θ) ∨ (anyTake ops p = false ∧ anyLate ops p = false ∧ hard ops i = false)) (hlt : okAfter ops i p = true)
    (hN : ∀ st' u' a' w' θ', Inv C a' w' st' u' θ' → Pres C.n fz ws st0 st' → Sy ops u0 stH θ0 p st' u' θ' → K st' u' → N a' w')
    (h : stepE E fz ops u0 i st u K) : wpOpR E.P ops (QN QQ) i (fun a' w' => (late ops i = true → Shows u0 stH θ0 wa → Shows u0 stH θ0 w') ∧ N a' w') a wa := by
  unfold stepE at h
  cases hoj : ops[i]? with
  | none => simp only [hoj] at h
  | some oj =>
    simp only [hoj] at h
    cases hpv : privOp E.priv oj with
    | true => simp only [hpv, cond_true] at h
    | false =>
      simp only [hpv, cond_false] at h
      have hmem : oj ∈ ops.toList := by have : ops.toList[i]? = some oj := by simpa using hoj
                                        exact List.mem_of_getElem? this
      have hoko := hok oj hmem
      have presTo : ∀ {s s' : St}, Pres C.n fz ws st0 s → Pres C.n fz oj.dst.toList s s' → Pres C.n fz ws st0 s' := by
        intro s s' h1 h2
        refine (h1.trans h2).mono (fun _ h => h) fun x hx => ?_
        rw [List.mem_append] at hx
        rcases hx with hx | hx
        · exact hx
        · cases hdst : oj.dst with
          | none => simp [hdst] at hx
          | some d => simp only [hdst, Option.toList, List.mem_singleton] at hx; exact hws oj hmem x (by rw [hdst, hx])
      unfold okAfter at hlt
      unfold wpOpR
      simp only [hoj]
      refine wd_guard (G := if Region.wanted oj (yielded ops a.tmps) = true then _ else _) hok hI h (fun hw h1 => ?_) (fun hw h1 => ?_)
      · rw [if_pos hw]
        cases hlate : hard ops i with
        | true =>
          simp only [hlate, cond_true] at h1
          refine upon_mono (fun a' w' hp => ?_) (W1_sound (Q := QN _) hoko hI h1)
          obtain ⟨st', u', θ', hI', hP', hθ, hDD, hsm, hW⟩ := hp
          have hP'' : Pres C.n fz oj.dst.toList st st' := hP'.mono (fun _ h => List.mem_append_left _ h) (fun _ h => h)
          have hDeq := hDD hpv
          rcases hS with ⟨_, hsyn⟩ | ⟨_, _, hno⟩
          · have hsyn' : Syn stH θ0 st' θ' := by
              refine ⟨hDeq.trans hsyn.D, fun k m hk => ?_, fun k m hk j hj => ?_⟩
              · rw [hθ k m (hsyn.D ▸ hk)]; exact hsyn.θ k m hk
              · rw [hP'.fz k (List.mem_append_right _ (List.mem_map.2 ⟨_, hsyn.D ▸ hk, rfl⟩)) m (hsyn.D ▸ hk) j hj]
                exact hsyn.gh k m hk j hj
            exact ⟨fun _ _ => (shows_iff hsyn' hgh w').2 (hI'.shows hsm), hN st' u' a' w' θ' hI' (presTo hP hP'') (.inl ⟨hsm, hsyn'⟩) hW⟩
          · rw [hlate] at hno; cases hno
        | false =>
          simp only [hlate, cond_false] at h1
          cases hnew : newI ops i with
          | true =>
            have hnw : isNew oj = true := by unfold newI at hnew; rw [hoj] at hnew; exact hnew
            obtain ⟨v, ob, hrun⟩ := new_run hnw hoko hI h1
            have hsd := W1_sound (Q := QN QQ) (fz := fz ++ st.D.map (·.1)) hoko hI (W1_new hnw hpv h1)
            unfold Snd at hsd
            rw [hrun] at hsd ⊢
            simp only [Oper.uponIn] at hsd ⊢
            obtain ⟨st', u', θ', hI', hP', hθ, hDD, hbl, hW⟩ := hsd
            have hP'' : Pres C.n fz oj.dst.toList st st' := hP'.mono (fun _ h => List.mem_append_left _ h) (fun _ h => h)
            have hDeq := hDD hpv
            refine ⟨fun _ hs => hs.alloc ob, hN st' u' _ _ θ' hI' (presTo hP hP'') ?_ hW⟩
            rcases hS with ⟨hsame, hsyn⟩ | ⟨n1, n2, _⟩
            · refine .inl ⟨belowNext hsame hbl, hDeq.trans hsyn.D, fun k m hk => ?_, fun k m hk j hj => ?_⟩
              · rw [hθ k m (hsyn.D ▸ hk)]; exact hsyn.θ k m hk
              · rw [hP'.fz k (List.mem_append_right _ (List.mem_map.2 ⟨_, hsyn.D ▸ hk, rfl⟩)) m (hsyn.D ▸ hk) j hj]
                exact hsyn.gh k m hk j hj
            · exact .inr ⟨n1, n2⟩
          | false =>
          simp only [hlate, hnew, Bool.false_or, Bool.and_eq_true, Bool.not_eq_true'] at hlt
          refine upon_mono (fun a' w' hp => ?_) (W1_sound (Q := QN _) hoko hI h1)
          obtain ⟨st', u', θ', hI', hP', hθ, hDD, hW⟩ := hp
          exact ⟨fun hh _ => (by simp [hard, hnew, hh] at hlate), hN st' u' a' w' θ' hI' (presTo hP hP') (.inr hlt) hW⟩
      · rw [if_neg (by simp [hw])]
        have hfin := hI.finP oj.dst (dst_lt hoko) (v := undef) rfl
        have hpf := presTo hP (Pres.fin st oj.dst (dst_lt hoko) hI.n_le undef)
        rcases hS with ⟨hsame, hsyn⟩ | ⟨hno1, hno2, hno3⟩
        · exact ⟨fun _ _ => (shows_iff hsyn hgh wa).2 (hI.shows hsame), hN _ u _ wa θ hfin hpf (.inl ⟨hsame, hsyn.fin hoko hI undef⟩) h1⟩
        · exact ⟨fun _ hs => hs, hN _ u _ wa θ hfin hpf (.inr ⟨hno1, hno2⟩) h1⟩

theorem Wd_sound {ws : List Nat} {ops : Array Oper} {Q : Exit → St → UW → Prop} {st0 stH : St} {θ0 : Nat → Nat} (hok : ∀ o ∈ ops.toList, okOper C.n o = true) (hws : ∀ o ∈ ops.toList, ∀ t, o.dst = some t → t ∈ ws)
    (hsel : Region.noSelect ops = true) (hgh : ∀ k m, (k, m) ∈ stH.D → ∀ j, j < m → ∀ k' o, stH.σ (gx k j) ≠ fake k' o) :
    ∀ (f : Nat) (p : Plan) (listed : Array Bool) (st : St) (u : UW) (a : Act) (wa : World) (θ : Nat → Nat), Cl ops listed → planF ops f listed = some p → Inv C a wa st u θ → Pres C.n fz ws st0 st →
      Sy ops u0 stH θ0 p st u θ → Wd E fz ops u0 (Q .normal) p st u →
      wpAnyT E.P ops (QN fun a' w' => ∃ st' u' θ', Inv C a' w' st' u' θ' ∧ Pres C.n fz ws st0 st' ∧ Q .normal st' u') (Shows u0 stH θ0) f listed a wa := by
  intro f
  induction f with
  | zero =>
    intro p listed st u a wa θ hcl hp hI hP hS h
    cases planF_spec 0 listed p ops hp with
    | nil _ hr => exact ⟨hr, st, u, θ, hI, hP, h⟩
  | succ f ih =>
    intro p listed st u a wa θ hcl hp hI hP hS h
    cases planF_spec (f + 1) listed p ops hp with
    | nil _ hr =>
      refine ⟨fun _ => ⟨st, u, θ, hI, hP, h⟩, ?_⟩
      rw [hr]; intro i hi; cases hi
    | tk _ j p' oj hoj htk hfree hrd hp' =>
      have hmem : oj ∈ ops.toList := by have : ops.toList[j]? = some oj := by simpa using hoj
                                        exact List.mem_of_getElem? this
      have hoko := hok oj hmem
      have presTo : ∀ (v : Value), Pres C.n fz ws st0 (fin oj st v) := by
        intro v
        refine (hP.trans (Pres.fin st oj.dst (dst_lt hoko) hI.n_le v)).mono (fun _ h => h) fun x hx => ?_
        rw [List.mem_append] at hx
        rcases hx with hx | hx
        · exact hx
        · cases hdst : oj.dst with
          | none => simp [hdst] at hx
          | some d => simp only [hdst, Option.toList, List.mem_singleton] at hx; exact hws oj hmem x (by rw [hdst, hx])
      have hS1 : reads oj = true → ∀ w, Shows u0 stH θ0 w ↔ Shows u0 st θ w := fun hrd => by
        rcases hS with ⟨_, hsyn⟩ | hn
        · exact shows_iff hsyn hgh
        · simp [anyTake, readsI, hoj, hrd] at hn
      have hS2 : reads oj = true → Shows u0 stH θ0 wa := fun hrd => by
        rcases hS with ⟨hsame, hsyn⟩ | hn
        · exact (shows_iff hsyn hgh wa).2 (hI.shows hsame)
        · simp [anyTake, readsI, hoj, hrd] at hn
      have hS3 : ∀ v, Sy ops u0 stH θ0 p' (fin oj st v) u θ := fun v => by
        rcases hS with ⟨hsame, hsyn⟩ | hn
        · exact .inl ⟨hsame, hsyn.fin hoko hI v⟩
        · simp only [anyTake, anyLate, Bool.or_eq_false_iff] at hn; exact .inr ⟨hn.1.2, hn.2⟩
      simp only [Wd, stepT, hoj] at h
      refine wd_guard hok hI h (fun hw h1 => ?_) (fun hw h1 => ?_)
      · obtain ⟨v, r, hR, hfk, hK, hrun⟩ := W1_take htk hoko hI h1
        refine wpAnyT_first hoj (Region.noSelect_spec hsel) (fun c a w hq => hq.elim) f listed a wa (Region.free_spec hoj hfree) hcl hrd (v := r) (.inl ⟨hw, fun w hw' => hrun w fun hr' => (hS1 hr' w).1 (hw' hr')⟩) hS2 ?_
        exact ih p' _ _ u _ wa θ (hcl.set hrd) hp' (hI.fin oj.dst (dst_lt hoko) hR hfk) (presTo v) (hS3 v) hK
      · refine wpAnyT_first hoj (Region.noSelect_spec hsel) (fun c a w hq => hq.elim) f listed a wa (Region.free_spec hoj hfree) hcl hrd (v := undef) (.inr ⟨hw, rfl⟩) hS2 ?_
        exact ih p' _ _ u _ wa θ (hcl.set hrd) hp' (hI.finP oj.dst (dst_lt hoko) rfl) (presTo undef) (hS3 undef) h1
    | ef _ i p' hr hlt hp' =>
      refine ⟨fun h0 => (by rw [hr] at h0; cases h0), fun x hx => ?_⟩
      rw [hr] at hx
      simp only [List.mem_singleton] at hx
      subst hx
      refine stepE_sound (p := p') hok hws hgh hI hP (hS.imp id fun hh => ?_) hlt (fun st' u' a' w' θ' hI' hP' hS' hW => ih p' _ st' u' a' w' θ' (hcl.set (by rw [hr]; simp)) hp' hI' hP' hS' hW) h
      simp only [anyTake, anyLate, Bool.or_eq_false_iff] at hh
      exact ⟨hh.1, hh.2.2, hh.2.1⟩
    | ef2 _ i j p' q' hr hlt hlt' hp' hq' =>
      refine ⟨fun h0 => (by rw [hr] at h0; cases h0), fun x hx => ?_⟩
      rw [hr] at hx
      simp only [List.mem_cons, List.not_mem_nil, or_false] at hx
      rcases hx with rfl | rfl
      · refine stepE_sound (p := p') hok hws hgh hI hP (hS.imp id fun hh => ?_) hlt (fun st' u' a' w' θ' hI' hP' hS' hW => ih p' _ st' u' a' w' θ' (hcl.set (by rw [hr]; simp)) hp' hI' hP' hS' hW) h.1
        simp only [anyTake, anyLate, Bool.or_eq_false_iff] at hh
        exact ⟨hh.1.1, hh.2.1.2, hh.2.1.1⟩
      · refine stepE_sound (p := q') hok hws hgh hI hP (hS.imp id fun hh => ?_) hlt' (fun st' u' a' w' θ' hI' hP' hS' hW => ih q' _ st' u' a' w' θ' (hcl.set (by rw [hr]; simp)) hq' hI' hP' hS' hW) h.2
        simp only [anyTake, anyLate, Bool.or_eq_false_iff] at hh
        exact ⟨hh.1.2, hh.2.2.2, hh.2.2.1⟩
    | ef3 _ i j k p' q' r' hr hlt hlt' hlt'' hp' hq' hr' =>
      refine ⟨fun h0 => (by rw [hr] at h0; cases h0), fun x hx => ?_⟩
      rw [hr] at hx
      simp only [List.mem_cons, List.not_mem_nil, or_false] at hx
      rcases hx with rfl | rfl | rfl
      · refine stepE_sound (p := p') hok hws hgh hI hP (hS.imp id fun hh => ?_) hlt (fun st' u' a' w' θ' hI' hP' hS' hW => ih p' _ st' u' a' w' θ' (hcl.set (by rw [hr]; simp)) hp' hI' hP' hS' hW) h.1
        simp only [anyTake, anyLate, Bool.or_eq_false_iff] at hh
        exact ⟨hh.1.1.1, hh.2.1.1.2, hh.2.1.1.1⟩
      · refine stepE_sound (p := q') hok hws hgh hI hP (hS.imp id fun hh => ?_) hlt' (fun st' u' a' w' θ' hI' hP' hS' hW => ih q' _ st' u' a' w' θ' (hcl.set (by rw [hr]; simp)) hq' hI' hP' hS' hW) h.2.1
        simp only [anyTake, anyLate, Bool.or_eq_false_iff] at hh
        exact ⟨hh.1.1.2, hh.2.1.2.2, hh.2.1.2.1⟩
      · refine stepE_sound (p := r') hok hws hgh hI hP (hS.imp id fun hh => ?_) hlt'' (fun st' u' a' w' θ' hI' hP' hS' hW => ih r' _ st' u' a' w' θ' (hcl.set (by rw [hr]; simp)) hr' hI' hP' hS' hW) h.2.2
        simp only [anyTake, anyLate, Bool.or_eq_false_iff] at hh
        exact ⟨hh.1.2, hh.2.2.2, hh.2.2.1⟩

/-! ### regions whose loads may come behind effects -/
/-- An operation that turns nothing: as a step (tot: it is sure to come through). -/
def stepN (P : Program) (ops : Array Oper) (tot : Bool) (j : Nat) (K : Act → World → Prop) (a : Act) (w : World) : Prop :=
  match ops[j]? with
  | none => False
  | some o => if Region.wanted o (yielded ops a.tmps) then
      (tot = true → ∃ v w', (execOp a.eval o).run P w = .ok (.value v) w' ∧ (w' = w ∨ ∃ ob, w' = w.alloc ob)) ∧
      ∀ v w', (execOp a.eval o).run P w = .ok (.value v) w' → (w' = w ∨ ∃ ob, w' = w.alloc ob) → K (a.put o.dst v) w'
    else K (a.put o.dst undef) w

def TQ (P : Program) (ops : Array Oper) (QQ : Exit → Act → World → Prop) : Nat → Array Bool → List Nat → Act → World → Prop
  | 0, listed, _, a, w => Region.ready .any ops listed = [] ∧ QQ .normal a w
  | f + 1, listed, blk, a, w => (Region.ready .any ops listed = [] → QQ .normal a w) ∧
    ∀ j ∈ Region.ready .any ops listed, memN blk j = false →
      (nonhard ops j = true → stepN P ops blk.isEmpty j (TQ P ops QQ f (listed.setIfInBounds j true) blk) a w) ∧
      (nonhard ops j = false → wpOpR P ops QQ j (TQ P ops QQ f (listed.setIfInBounds j true) []) a w)

theorem TQ_any {P : Program} {ops : Array Oper} {QQ : Exit → Act → World → Prop} : ∀ (f : Nat) (listed : Array Bool) (a : Act) (w : World), TQ P ops QQ f listed [] a w → wpAnyT P ops QQ (fun _ => True) f listed a w
  | 0, _, _, _, h => h
  | f + 1, listed, a, w, h => by
    refine ⟨h.1, fun i hi => ?_⟩
    have hh := h.2 i hi rfl
    cases hn : nonhard ops i with
    | false => exact wpOpR_mono (fun a' w' h' => ⟨fun _ _ => trivial, TQ_any f _ _ _ h'⟩) (hh.2 hn)
    | true =>
      have h1 := hh.1 hn
      unfold stepN at h1
      unfold wpOpR
      cases ho : ops[i]? with
      | none => rw [ho] at h1; exact h1.elim
      | some o =>
        rw [ho] at h1
        simp only at h1 ⊢
        split <;> rename_i hw <;> simp only [hw, if_true, if_false, Bool.false_eq_true] at h1
        · obtain ⟨v, w', hr, hs⟩ := h1.1 rfl
          rw [hr]
          exact ⟨fun _ _ => trivial, TQ_any f _ _ _ (h1.2 v w' hr hs)⟩
        · exact ⟨fun _ _ => trivial, TQ_any f _ _ _ h1⟩

/-- A step that is taken ahead of one that stands apart from it. -/
theorem stepN_put {P : Program} {ops : Array Oper} {j : Nat} {oi oj : Oper} {v : Value} {tot : Bool} {K : Act → World → Prop} {a : Act} {w : World} (hj : ops[j]? = some oj) (hap : oi.apart ops oj = true) (hsj : ∀ cs b, oj.op ≠ .select cs b)
    (h : stepN P ops tot j K (a.put oi.dst v) w) : stepN P ops tot j (fun a' w' => K (a'.put oi.dst v) w') a w := by
  obtain ⟨h1, h2, h3⟩ := Oper.apart_spec hap
  unfold stepN at h ⊢
  simp only [hj, wanted_put oj a oi.dst v h1, execOp_put oj hsj a oi.dst v h1] at h ⊢
  split <;> rename_i hw <;> simp only [hw, if_true, if_false, Bool.false_eq_true] at h
  · refine ⟨h.1, fun x w' hr hs => ?_⟩
    rw [← Act.put_comm a v x h2]; exact h.2 x w' hr hs
  · rw [← Act.put_comm a v undef h2]; exact h

theorem stepN_and {P : Program} {ops : Array Oper} {j : Nat} {t1 t2 : Bool} {K1 K2 K : Act → World → Prop} {a : Act} {w : World} (hk : ∀ (oj : Oper) (x : Value) (w' : World), ops[j]? = some oj → (w' = w ∨ ∃ ob, w' = w.alloc ob) → K1 (a.put oj.dst x) w' → K2 (a.put oj.dst x) w' → K (a.put oj.dst x) w')
    (h1 : stepN P ops t1 j K1 a w) (h2 : stepN P ops t2 j K2 a w) : stepN P ops t1 j K a w := by
  unfold stepN at h1 h2 ⊢
  cases ho : ops[j]? with
  | none => rw [ho] at h1; exact h1.elim
  | some oj =>
    rw [ho] at h1 h2
    simp only at h1 h2 ⊢
    split <;> rename_i hw <;> simp only [hw, if_true, if_false, Bool.false_eq_true] at h1 h2
    · exact ⟨h1.1, fun v w' hr hs => hk oj v w' ho hs (h1.2 v w' hr hs) (h2.2 v w' hr hs)⟩
    · exact hk oj undef w ho (.inl rfl) h1 h2

theorem stepN_mono {P : Program} {ops : Array Oper} {j : Nat} {t : Bool} {K1 K : Act → World → Prop} {a : Act} {w : World} (hk : ∀ (oj : Oper) (x : Value) (w' : World), ops[j]? = some oj → (w' = w ∨ ∃ ob, w' = w.alloc ob) → K1 (a.put oj.dst x) w' → K (a.put oj.dst x) w')
    (h1 : stepN P ops t j K1 a w) : stepN P ops t j K a w := stepN_and (fun oj x w' ho hs k1 _ => hk oj x w' ho hs k1) h1 h1

theorem TQ_split {P : Program} {ops : Array Oper} {QQ : Exit → Act → World → Prop} {S : World → Prop} {i : Nat} {oi : Oper} {v : Value} (hi : ops[i]? = some oi) (hni : nonhard ops i = true) (hsel : ∀ (j : Nat) (o : Oper) cs b, ops[j]? = some o → o.op ≠ .select cs b)
    (hQ : ∀ c a w, QQ (.panic c) (a.put oi.dst v) w → QQ (.panic c) a w) (hSc : ∀ w ob, S w → S (w.alloc ob)) :
    ∀ (f : Nat) (listed : Array Bool) (blk : List Nat) (a : Act) (w : World),
      (∀ j oj, ops[j]? = some oj → j ≠ i → listed.getD j true = false → (∀ e ∈ oj.after, Region.binds .any e = true → e.on ≠ i) → oi.apart ops oj = true) →
      i ∈ Region.ready .any ops listed → memN blk i = false → YieldsIf P ops S oi v a → S w →
      TQ P ops QQ f (listed.setIfInBounds i true) blk (a.put oi.dst v) w → ((∀ w, S w) ∨ TQ P ops QQ (f + 1) listed (i :: blk) a w) → TQ P ops QQ (f + 1) listed blk a w := by
  have self : ∀ (f : Nat) (listed : Array Bool) (blk : List Nat) (a : Act) (w : World), YieldsIf P ops S oi v a → S w → TQ P ops QQ f (listed.setIfInBounds i true) blk (a.put oi.dst v) w →
      stepN P ops blk.isEmpty i (TQ P ops QQ f (listed.setIfInBounds i true) blk) a w := by
    intro f listed blk a w hy hS hA
    unfold stepN
    simp only [hi]
    rcases hy with ⟨hw, hv⟩ | ⟨hw, rfl⟩
    · rw [if_pos hw]
      refine ⟨fun _ => ⟨v, w, hv w hS, .inl rfl⟩, fun x w' hr _ => ?_⟩
      rw [hv w hS] at hr
      cases hr
      exact hA
    · rw [if_neg (by simp [hw])]; exact hA
  intro f
  induction f with
  | zero =>
    intro listed blk a w hfree hr hb hy hS hA hB
    refine ⟨fun h => (by rw [h] at hr; cases hr), fun j hj hbj => ?_⟩
    by_cases hji : j = i
    · subst hji
      exact ⟨fun _ => self 0 listed blk a w hy hS hA, fun h => (by rw [hni] at h; cases h)⟩
    · have := ready_mono hj hji
      rw [hA.1] at this
      cases this
  | succ f ih =>
    intro listed blk a w hfree hr hb hy hS hA hB
    refine ⟨fun h => (by rw [h] at hr; cases hr), fun j hj hbj => ?_⟩
    by_cases hji : j = i
    · subst hji
      exact ⟨fun _ => self (f + 1) listed blk a w hy hS hA, fun h => (by rw [hni] at h; cases h)⟩
    · have h1 := hA.2 j (ready_mono hj hji) hbj
      obtain ⟨hjun, oj, hoj, hall⟩ := mem_ready.1 hj
      have hnot : ∀ e ∈ oj.after, Region.binds .any e = true → e.on ≠ i := fun e he hb heq => by
        have h1 := hall e he hb
        have h0 := (mem_ready.1 hr).1
        rw [heq] at h1
        rcases Nat.lt_or_ge i listed.size with h' | h'
        · simp [h'] at h0 h1; rw [h0] at h1; cases h1
        · simp [Array.getElem?_eq_none h'] at h1
      have hap := hfree j oj hoj hji hjun hnot
      have hfree' : ∀ k ok, ops[k]? = some ok → k ≠ i → (listed.setIfInBounds j true).getD k true = false →
          (∀ e ∈ ok.after, Region.binds .any e = true → e.on ≠ i) → oi.apart ops ok = true := fun k ok hk hki hun hno => by
        refine hfree k ok hk hki ?_ hno
        by_cases hjk : j = k
        · subst hjk; exact hjun
        · rw [getD_set_ne true hjk] at hun; exact hun
      have hcomm : (listed.setIfInBounds i true).setIfInBounds j true = (listed.setIfInBounds j true).setIfInBounds i true := Array.setIfInBounds_comm _ _ (Ne.symm hji)
      have hyst : ∀ (b : Act) (x : Value), YieldsIf P ops S oi v b → YieldsIf P ops S oi v (b.put oj.dst x) := fun b x hb => by
        obtain ⟨_, _, h3⟩ := Oper.apart_spec hap
        exact hb.of_same (execOp_put oi (fun cs b => hsel i oi cs b hi) b oj.dst x h3) (wanted_put oi b oj.dst x h3)
      refine ⟨fun hn => ?_, fun hn => ?_⟩
      · have k1 := stepN_put hoj hap (fun cs b => hsel j oj cs b hoj) (h1.1 hn)
        have go : ∀ (a' : Act) (w' : World), YieldsIf P ops S oi v a' → S w' → TQ P ops QQ f ((listed.setIfInBounds i true).setIfInBounds j true) blk (a'.put oi.dst v) w' → ((∀ w, S w) ∨ TQ P ops QQ (f + 1) (listed.setIfInBounds j true) (i :: blk) a' w') → TQ P ops QQ (f + 1) (listed.setIfInBounds j true) blk a' w' := fun a' w' y1 y2 y3 y4 =>
          ih (listed.setIfInBounds j true) blk a' w' hfree' (ready_mono hr (Ne.symm hji)) hb y1 y2 (by rw [hcomm] at y3; exact y3) y4
        have hSn : ∀ w', (w' = w ∨ ∃ ob, w' = w.alloc ob) → S w' := fun w' hs => by
          rcases hs with rfl | ⟨ob, rfl⟩
          · exact hS
          · exact hSc w ob hS
        rcases hB with hB | hB
        · refine stepN_mono (fun oj' x w' ho' hs y1 => ?_) k1
          have : oj' = oj := by rw [hoj] at ho'; cases ho'; rfl
          subst this
          exact go _ _ (hyst a x hy) (hSn w' hs) y1 (.inl hB)
        · have hbj' : memN (i :: blk) j = false := by
            cases hm : memN (i :: blk) j with
            | false => rfl
            | true =>
              rcases List.mem_cons.1 (memN_iff.1 hm) with h | h
              · exact absurd h hji
              · rw [memN_iff.2 h] at hbj; cases hbj
          have k2 := (hB.2 j hj hbj').1 hn
          refine stepN_and (fun oj' x w' ho' hs y1 y2 => ?_) k1 k2
          have : oj' = oj := by rw [hoj] at ho'; cases ho'; rfl
          subst this
          exact go _ _ (hyst a x hy) (hSn w' hs) y1 (.inr y2)
      · rcases hB with hB | hB
        · have k1 := wpOpR_put (S := S) hoj hap (fun cs b => hsel i oi cs b hi) (fun cs b => hsel j oj cs b hoj) hQ hy (h1.2 hn)
          refine wpOpR_mono (fun a' w' y => ?_) k1
          exact ih (listed.setIfInBounds j true) [] a' w' hfree' (ready_mono hr (Ne.symm hji)) rfl y.1 (hB w') (by have := y.2; rw [hcomm] at this; exact this) (.inl hB)
        · have hbj' : memN (i :: blk) j = false := by
            cases hm : memN (i :: blk) j with
            | false => rfl
            | true =>
              rcases List.mem_cons.1 (memN_iff.1 hm) with h | h
              · exact absurd h hji
              · rw [memN_iff.2 h] at hbj; cases hbj
          exact (hB.2 j hj hbj').2 hn

/-- How many have not come up. -/
def openN (listed : Array Bool) : Nat := (listed.toList.filter (!·)).length

theorem openL_set : ∀ (l : List Bool) (i : Nat), i < l.length → l[i]? = some false → ((l.set i true).filter (!·)).length + 1 = (l.filter (!·)).length
  | [], i, h, _ => by simp at h
  | b :: l, 0, _, h => by simp only [List.getElem?_cons_zero, Option.some.injEq] at h; subst h; simp
  | b :: l, i + 1, h, h2 => by
    simp only [List.getElem?_cons_succ] at h2
    simp only [List.length_cons] at h
    have := openL_set l i (by omega) h2
    show ((b :: l.set i true).filter (!·)).length + 1 = ((b :: l).filter (!·)).length
    cases b <;> simp at this ⊢ <;> omega

theorem openN_set {listed : Array Bool} {i : Nat} {ops : Array Oper} (hi : i ∈ Region.ready .any ops listed) (hs : listed.size = ops.size) : openN (listed.setIfInBounds i true) + 1 = openN listed := by
  obtain ⟨h0, oj, hoj, _⟩ := mem_ready.1 hi
  have hlt : i < listed.size := by rw [hs]; exact (Array.getElem?_eq_some_iff.1 hoj).1
  unfold openN
  rw [Array.toList_setIfInBounds]
  refine openL_set _ i (by simpa using hlt) ?_
  rw [Array.getD_eq_getD_getElem?, Array.getElem?_eq_getElem hlt] at h0
  rw [Array.getElem?_toList, Array.getElem?_eq_getElem hlt]
  exact congrArg some h0

theorem openN_pos {listed : Array Bool} {i : Nat} {ops : Array Oper} (hi : i ∈ Region.ready .any ops listed) (hs : listed.size = ops.size) : 0 < openN listed := by
  have := openN_set hi hs; omega

/-- Where nothing can turn ahead of what is kept back, there is nothing to ask. -/
theorem TQ_vac {P : Program} {ops : Array Oper} {QQ : Exit → Act → World → Prop} : ∀ (f : Nat) (listed : Array Bool) (blk : List Nat) (a : Act) (w : World), listed.size = ops.size → openN listed ≤ f → Cl ops listed → blk ≠ [] → (∀ x ∈ blk, x ∈ Region.ready .any ops listed) → vacQ ops listed blk = true → TQ P ops QQ f listed blk a w := by
  intro f
  induction f with
  | zero =>
    intro listed blk a w hs hn hcl hb hr hv
    cases blk with
    | nil => exact absurd rfl hb
    | cons x blk => have := openN_pos (hr x (by simp)) hs; omega
  | succ f ih =>
    intro listed blk a w hs hn hcl hb hr hv
    obtain ⟨x, hx⟩ : ∃ x, x ∈ blk := by
      cases blk with
      | nil => exact absurd rfl hb
      | cons x blk => exact ⟨x, by simp⟩
    refine ⟨fun h => (by have := hr x hx; rw [h] at this; cases this), fun j hj hbj => ?_⟩
    have hnext : ∀ a' w', TQ P ops QQ f (listed.setIfInBounds j true) blk a' w' := fun a' w' => by
      refine ih _ blk a' w' (by simpa using hs) (by have := openN_set hj hs; omega) (hcl.set hj) hb (fun y hy => ?_) ?_
      · refine ready_mono (hr y hy) fun e => ?_
        subst e
        rw [memN_iff.2 hy] at hbj; cases hbj
      · unfold vacQ at hv ⊢
        rw [List.all_eq_true] at hv ⊢
        intro h hh
        have := hv h hh
        simp only [Bool.or_eq_true] at this ⊢
        rcases this with h1 | h1
        · left
          by_cases hjh : j = h
          · subst hjh
            have := (mem_ready.1 hj).1
            rw [this] at h1; cases h1
          · rw [getD_set_ne true hjh]; exact h1
        · exact .inr h1
    refine ⟨fun hn' => ?_, fun hn' => ?_⟩
    · unfold stepN
      obtain ⟨_, oj, hoj, _⟩ := mem_ready.1 hj
      simp only [hoj]
      have hemp : blk.isEmpty = false := by cases blk with
        | nil => exact absurd rfl hb
        | cons _ _ => rfl
      rw [hemp]
      split
      · exact ⟨fun h => (by cases h), fun v w' _ _ => hnext _ _⟩
      · exact hnext _ _
    · exfalso
      obtain ⟨hj0, oj, hoj, hall⟩ := mem_ready.1 hj
      unfold vacQ at hv
      rw [List.all_eq_true] at hv
      have := hv j (List.mem_range.2 (Array.getElem?_eq_some_iff.1 hoj).1)
      rw [hj0, hn', Bool.false_or, Bool.false_or, List.any_eq_true] at this
      obtain ⟨y, hy1, hy2⟩ := this
      have hyr := (mem_ready.1 (hr y (memN_iff.1 hy2))).1
      have hl : listed.getD y false = true := by
        refine hcl.sweep ops.size (preds ops j) (fun x hx => ?_) y hy1
        unfold preds at hx
        simp only [hoj] at hx
        obtain ⟨e, he, rfl⟩ := List.mem_map.1 hx
        rw [List.mem_filter] at he
        exact hall e (by simpa using he.1) he.2
      rcases Nat.lt_or_ge y listed.size with h' | h'
      · simp [h'] at hyr hl; rw [hyr] at hl; cases hl
      · rw [Array.getD_eq_getD_getElem?, Array.getElem?_eq_none h'] at hl; cases hl

theorem takeQ_spec {ops : Array Oper} {listed : Array Bool} {blk : List Nat} {j : Nat} : ∀ l : List Nat, takeQ ops listed blk l = some j → j ∈ l ∧ ∃ oj, ops[j]? = some oj ∧ takeable oj = true ∧ (reads oj = false ∨ vacQ ops listed (j :: blk) = true) ∧ Region.free .any ops listed j = true ∧ memN blk j = false := by
  intro l
  induction l with
  | nil => intro h; simp [takeQ] at h
  | cons x l ih =>
    intro h
    simp only [takeQ] at h
    cases hx : ops[x]? with
    | none =>
      simp only [hx, Bool.false_and, cond_false] at h
      obtain ⟨h1, h2⟩ := ih h; exact ⟨by simp [h1], h2⟩
    | some ox =>
      simp only [hx] at h
      cases hc : (takeable ox && (!reads ox || vacQ ops listed (x :: blk))) && (Region.free .any ops listed x && !memN blk x) with
      | true =>
        simp only [hc, cond_true, Option.some.injEq] at h
        subst h
        simp only [Bool.and_eq_true, Bool.not_eq_true', Bool.or_eq_true] at hc
        exact ⟨by simp, ox, hx, hc.1.1, hc.1.2, hc.2.1, hc.2.2⟩
      | false =>
        simp only [hc, cond_false] at h
        obtain ⟨h1, h2⟩ := ih h; exact ⟨by simp [h1], h2⟩

theorem loadQ_spec {ops : Array Oper} {listed : Array Bool} {blk : List Nat} {j : Nat} : ∀ l : List Nat, loadQ ops listed blk l = some j → j ∈ l ∧ ∃ oj, ops[j]? = some oj ∧ takeable oj = true ∧ Region.free .any ops listed j = true ∧ memN blk j = false := by
  intro l
  induction l with
  | nil => intro h; simp [loadQ] at h
  | cons x l ih =>
    intro h
    simp only [loadQ] at h
    cases hx : ops[x]? with
    | none =>
      simp only [hx, Bool.false_and, cond_false] at h
      obtain ⟨h1, h2⟩ := ih h; exact ⟨by simp [h1], h2⟩
    | some ox =>
      simp only [hx] at h
      cases hc : takeable ox && (Region.free .any ops listed x && !memN blk x) with
      | true =>
        simp only [hc, cond_true, Option.some.injEq] at h
        subst h
        simp only [Bool.and_eq_true, Bool.not_eq_true'] at hc
        exact ⟨by simp, ox, hx, hc.1, hc.2.1, hc.2.2⟩
      | false =>
        simp only [hc, cond_false] at h
        obtain ⟨h1, h2⟩ := ih h; exact ⟨by simp [h1], h2⟩

theorem altsQ_spec {ops : Array Oper} {blk : List Nat} {Q : St → UW → Prop} {fz : List Nat} {g : Nat → Option PlanQ} {st : St} {u : UW} : ∀ (l : List Nat) (q : PlanQ), altsQ ops blk g l = some q → Wq E fz ops Q q st u → ∀ i ∈ l, memN blk i = false → (∀ o, ops[i]? = some o → takeable o = false) ∧ ∃ q', g i = some q' ∧ stepQ E fz ops i st u fun st' u' => Wq E fz ops Q q' st' u'
  | [], _, _, _, i, hi, _ => by cases hi
  | j :: l, q, h, hw, i, hi, hb => by
    simp only [altsQ] at h
    cases hbj : memN blk j with
    | true =>
      rw [hbj] at h
      simp only [cond_true] at h
      rcases List.mem_cons.1 hi with rfl | hi
      · rw [hb] at hbj; cases hbj
      · exact altsQ_spec l q h hw i hi hb
    | false =>
      rw [hbj] at h
      simp only [cond_false] at h
      cases ht : takI ops j true with
      | true => rw [ht] at h; cases h
      | false =>
        rw [ht] at h
        simp only [cond_false] at h
        cases hj : g j with
        | none => rw [hj] at h; cases h
        | some qj =>
          rw [hj] at h
          simp only at h
          cases hl : altsQ ops blk g l with
          | none => rw [hl] at h; cases h
          | some r =>
            rw [hl] at h
            cases h
            rcases List.mem_cons.1 hi with rfl | hi
            · exact ⟨fun o ho => (by unfold takI at ht; rw [ho] at ht; exact ht), qj, hj, hw.1⟩
            · exact altsQ_spec l r hl hw.2 i hi hb

theorem Wq_sound {ws : List Nat} {ops : Array Oper} {Q : Exit → St → UW → Prop} {st0 : St} (hok : ∀ o ∈ ops.toList, okOper C.n o = true) (hws : ∀ o ∈ ops.toList, ∀ t, o.dst = some t → t ∈ ws)
    (hsel : Region.noSelect ops = true) :
    ∀ (g : Nat) (p : PlanQ) (f : Nat) (listed : Array Bool) (blk : List Nat) (st : St) (u : UW) (a : Act) (wa : World) (θ : Nat → Nat), listed.size = ops.size → openN listed ≤ f → (∀ x ∈ blk, x ∈ Region.ready .any ops listed) → Cl ops listed → planQ ops g listed blk = some p → Inv C a wa st u θ → Pres C.n fz ws st0 st →
      Wq E fz ops (Q .normal) p st u →
      TQ E.P ops (QN fun a' w' => ∃ st' u' θ', Inv C a' w' st' u' θ' ∧ Pres C.n fz ws st0 st' ∧ Q .normal st' u') f listed blk a wa := by
  intro g
  induction g with
  | zero => intro p f listed blk st u a wa θ _ _ _ _ hp; simp [planQ] at hp
  | succ g ih =>
    intro p f listed blk st u a wa θ hsz hop hbr hcl hp hI hP h
    simp only [planQ] at hp
    have presOf : ∀ {oj : Oper}, oj ∈ ops.toList → ∀ {s s' : St}, Pres C.n fz ws st0 s → Pres C.n fz oj.dst.toList s s' → Pres C.n fz ws st0 s' := by
      intro oj hmem s s' h1 h2
      refine (h1.trans h2).mono (fun _ h => h) fun x hx => ?_
      rw [List.mem_append] at hx
      rcases hx with hx | hx
      · exact hx
      · cases hdst : oj.dst with
        | none => simp [hdst] at hx
        | some d => simp only [hdst, Option.toList, List.mem_singleton] at hx; exact hws oj hmem x (by rw [hdst, hx])
    -- a load, or something that touches no memory: taken
    have take : ∀ {j : Nat} {oj : Oper} {q : PlanQ} {f : Nat}, openN listed ≤ f + 1 → j ∈ Region.ready .any ops listed → ops[j]? = some oj → takeable oj = true → Region.free .any ops listed j = true → memN blk j = false →
        planQ ops g (listed.setIfInBounds j true) blk = some q → stepT E fz ops u j st (fun st' => Wq E fz ops (Q .normal) q st' u) →
        (reads oj = false ∨ TQ E.P ops (QN fun a' w' => ∃ st' u' θ', Inv C a' w' st' u' θ' ∧ Pres C.n fz ws st0 st' ∧ Q .normal st' u') (f + 1) listed (j :: blk) a wa) →
        TQ E.P ops (QN fun a' w' => ∃ st' u' θ', Inv C a' w' st' u' θ' ∧ Pres C.n fz ws st0 st' ∧ Q .normal st' u') (f + 1) listed blk a wa := by
      intro j oj q f hop hrd hoj htk hfree hbj hpq hst hB
      have hmem : oj ∈ ops.toList := by have : ops.toList[j]? = some oj := by simpa using hoj
                                        exact List.mem_of_getElem? this
      have hoko := hok oj hmem
      have presTo : ∀ (v : Value), Pres C.n fz ws st0 (fin oj st v) := fun v => presOf hmem hP (Pres.fin st oj.dst (dst_lt hoko) hI.n_le v)
      have hni : nonhard ops j = true := by unfold nonhard; rw [hoj]; simp [htk]
      have hop' : openN (listed.setIfInBounds j true) ≤ f := by have := openN_set hrd hsz; omega
      have hbr' : ∀ x ∈ blk, x ∈ Region.ready .any ops (listed.setIfInBounds j true) := fun x hx => ready_mono (hbr x hx) fun e => by subst e; rw [memN_iff.2 hx] at hbj; cases hbj
      simp only [stepT, hoj] at hst
      refine wd_guard hok hI hst (fun hw h1 => ?_) (fun hw h1 => ?_)
      · obtain ⟨v, r, hR, hfk, hK, hrun⟩ := W1_take htk hoko hI h1
        have hA := ih q f _ blk _ u (a.put oj.dst r) wa θ (by simpa using hsz) hop' hbr' (hcl.set hrd) hpq (hI.fin oj.dst (dst_lt hoko) hR hfk) (presTo v) hK
        cases hre : reads oj with
        | false => exact TQ_split (S := fun _ => True) hoj hni (Region.noSelect_spec hsel) (fun c a w hq => hq.elim) (fun _ _ _ => trivial) f listed blk a wa (Region.free_spec hoj hfree) hrd hbj (.inl ⟨hw, fun w _ => hrun w fun hr' => (by rw [hre] at hr'; cases hr')⟩) trivial hA (.inl fun _ => trivial)
        | true =>
          have hB' := hB.resolve_left (by rw [hre]; simp)
          exact TQ_split (S := fun w => Shows u st θ w) hoj hni (Region.noSelect_spec hsel) (fun c a w hq => hq.elim) (fun _ ob hs => hs.alloc ob) f listed blk a wa (Region.free_spec hoj hfree) hrd hbj (.inl ⟨hw, fun w hs => hrun w fun _ => hs⟩) (hI.shows (Below.refl _ _)) hA (.inr hB')
      · have hA := ih q f _ blk _ u (a.put oj.dst undef) wa θ (by simpa using hsz) hop' hbr' (hcl.set hrd) hpq (hI.finP oj.dst (dst_lt hoko) rfl) (presTo undef) h1
        exact TQ_split (S := fun _ => True) hoj hni (Region.noSelect_spec hsel) (fun c a w hq => hq.elim) (fun _ _ _ => trivial) f listed blk a wa (Region.free_spec hoj hfree) hrd hbj (.inr ⟨hw, rfl⟩) trivial hA (.inl fun _ => trivial)
    cases hrd : Region.ready .any ops listed with
    | nil =>
      rw [hrd] at hp
      cases hp
      cases f with
      | zero => exact ⟨hrd, st, u, θ, hI, hP, h⟩
      | succ f => exact ⟨fun _ => ⟨st, u, θ, hI, hP, h⟩, fun j hj => (by rw [hrd] at hj; cases hj)⟩
    | cons x0 l0 =>
      have hpos : 0 < openN listed := openN_pos (i := x0) (by rw [hrd]; simp) hsz
      obtain ⟨f, rfl⟩ : ∃ k, f = k + 1 := ⟨f - 1, by omega⟩
      rw [hrd] at hp
      simp only at hp
      cases htq : takeQ ops listed blk (x0 :: l0) with
      | some j =>
        rw [htq] at hp
        simp only at hp
        obtain ⟨hjm, oj, hoj, htk, hor, hfree, hbj⟩ := takeQ_spec _ htq
        rw [← hrd] at hjm
        cases hpq : planQ ops g (listed.setIfInBounds j true) blk with
        | none => rw [hpq] at hp; cases hp
        | some q =>
          rw [hpq] at hp
          cases hp
          refine take hop hjm hoj htk hfree hbj hpq h (hor.imp id fun hv => ?_)
          exact TQ_vac (f + 1) listed (j :: blk) a wa hsz hop hcl (by simp) (fun y hy => (List.mem_cons.1 hy).elim (fun e => e ▸ hjm) (hbr y)) hv
      | none =>
        rw [htq] at hp
        simp only at hp
        cases hlq : loadQ ops listed blk (x0 :: l0) with
        | some j =>
          rw [hlq] at hp
          simp only at hp
          obtain ⟨hjm, oj, hoj, htk, hfree, hbj⟩ := loadQ_spec _ hlq
          rw [← hrd] at hjm
          cases hpq : planQ ops g (listed.setIfInBounds j true) blk with
          | none => rw [hpq] at hp; cases hp
          | some q =>
            cases hpr : planQ ops g listed (j :: blk) with
            | none => rw [hpq, hpr] at hp; cases hp
            | some r =>
              rw [hpq, hpr] at hp
              cases hp
              refine take hop hjm hoj htk hfree hbj hpq h.1 (.inr ?_)
              exact ih r (f + 1) listed (j :: blk) st u a wa θ hsz hop (fun y hy => (List.mem_cons.1 hy).elim (fun e => e ▸ hjm) (hbr y)) hcl hpr hI hP h.2
        | none =>
          rw [hlq] at hp
          simp only at hp
          have alts := altsQ_spec _ _ hp h
          refine ⟨fun h0 => (by rw [hrd] at h0; cases h0), fun i hi hbi => ?_⟩
          have hi2 : i ∈ x0 :: l0 := by rw [← hrd]; exact hi
          obtain ⟨hnt, q, hq, hst⟩ := alts i hi2 hbi
          unfold stepQ at hst
          cases hoj : ops[i]? with
          | none => rw [hoj] at hst; exact hst.elim
          | some oj =>
            rw [hoj] at hst
            simp only at hst
            have hmem : oj ∈ ops.toList := by have : ops.toList[i]? = some oj := by simpa using hoj
                                              exact List.mem_of_getElem? this
            have hoko := hok oj hmem
            have hop' : openN (listed.setIfInBounds i true) ≤ f := by have := openN_set hi hsz; omega
            have hbr' : ∀ x ∈ blk, x ∈ Region.ready .any ops (listed.setIfInBounds i true) := fun x hx => ready_mono (hbr x hx) fun e => by subst e; rw [memN_iff.2 hx] at hbi; cases hbi
            refine ⟨fun hn => ?_, fun hn => ?_⟩
            · rw [hn] at hq
              simp only [cond_true] at hq
              have hnw : isNew oj = true := by
                unfold nonhard at hn
                rw [hoj] at hn
                simp only [hnt oj hoj, Bool.false_or] at hn
                exact hn
              unfold stepN
              simp only [hoj]
              refine wd_guard (G := if Region.wanted oj (yielded ops a.tmps) = true then _ else _) hok hI hst (fun hw h1 => ?_) (fun hw h1 => ?_)
              · rw [if_pos hw]
                obtain ⟨v, ob, hrun⟩ := new_run hnw hoko hI h1
                refine ⟨fun _ => ⟨v, _, hrun, .inr ⟨ob, rfl⟩⟩, fun v' w' hr' _ => ?_⟩
                have hsd := W1_sound (Q := QN fun _ _ => True) hoko hI h1
                unfold Snd at hsd
                rw [hr'] at hsd
                simp only [Oper.uponIn] at hsd
                obtain ⟨st', u', θ', hI', hP', _, _, hW⟩ := hsd
                exact ih q f _ blk st' u' _ w' θ' (by simpa using hsz) hop' hbr' (hcl.set hi) hq hI' (presOf hmem hP hP') hW
              · rw [if_neg (by simp [hw])]
                exact ih q f _ blk _ u _ wa θ (by simpa using hsz) hop' hbr' (hcl.set hi) hq (hI.finP oj.dst (dst_lt hoko) (v := undef) rfl) (presOf hmem hP (Pres.fin st oj.dst (dst_lt hoko) hI.n_le undef)) h1
            · rw [hn] at hq
              simp only [cond_false] at hq
              unfold wpOpR
              simp only [hoj]
              refine wd_guard (G := if Region.wanted oj (yielded ops a.tmps) = true then _ else _) hok hI hst (fun hw h1 => ?_) (fun hw h1 => ?_)
              · rw [if_pos hw]
                refine upon_mono (fun a' w' hpp => ?_) (W1_sound (Q := QN _) hoko hI h1)
                obtain ⟨st', u', θ', hI', hP', _, _, hW⟩ := hpp
                exact ih q f _ [] st' u' a' w' θ' (by simpa using hsz) hop' (by simp) (hcl.set hi) hq hI' (presOf hmem hP hP') hW
              · rw [if_neg (by simp [hw])]
                exact ih q f _ [] _ u _ wa θ (by simpa using hsz) hop' (by simp) (hcl.set hi) hq (hI.finP oj.dst (dst_lt hoko) (v := undef) rfl) (presOf hmem hP (Pres.fin st oj.dst (dst_lt hoko) hI.n_le undef)) h1

/-- A region whose loads come up like effects. -/
theorem Wq_region {ws : List Nat} {id : Nat} {ops : Array Oper} {Q : Exit → St → UW → Prop} {p : PlanQ} (hm : E.P.follows .mixedOrders = true) (hok : ∀ o ∈ ops.toList, okOper C.n o = true) (hws : ∀ o ∈ ops.toList, ∀ t, o.dst = some t → t ∈ ws)
    (hp : mkPlanQ ops = some p) (hI : Inv C a wa st u θ) (h : Wq E fz ops (Q .normal) p st u) : (Code.region id ops true).wpIn (Fw C.ro) 0 E.P (QW C fz ws st Q) a wa := by
  unfold mkPlanQ at hp
  cases hs : Region.noSelect ops with
  | false => simp [hs] at hp
  | true =>
    simp only [hs, cond_true] at hp
    have hI' := hI.drew
    have hop : openN (Array.replicate ops.size false) ≤ ops.size := by
      unfold openN
      exact Nat.le_trans (List.length_filter_le _ _) (by simp)
    have key := TQ_any _ _ _ _ (Wq_sound (E := E) (fz := fz) (Q := Q) (st0 := st) hok hws hs _ p ops.size _ [] st u a _ θ (by simp) hop (by simp) (Cl.none ops _) hp hI' (Pres.refl _ _ _ _) h)
    have hdf : ∀ (j : Nat) (o : Oper) c, ops[j]? = some o → o.op ≠ .defer c := by
      intro j o c ho
      have hj : ops.toList[j]? = some o := by simpa using ho
      exact okOper_defer (hok o (List.mem_of_getElem? hj)) c
    refine wpIn_mono (wpIn_region_any hm (wpAny_of_T C.ro hdf _ _ _ _ key)) fun e a' w' hq => ?_
    cases e with
    | normal => exact hq
    | _ => exact hq.elim

/-- A region that draws its order. -/
theorem Wd_region {ws : List Nat} {id : Nat} {ops : Array Oper} {Q : Exit → St → UW → Prop} {p : Plan} (hm : E.P.follows .mixedOrders = true) (hok : ∀ o ∈ ops.toList, okOper C.n o = true) (hws : ∀ o ∈ ops.toList, ∀ t, o.dst = some t → t ∈ ws)
    (hp : mkPlan ops = some p) (hI : Inv C a wa st u θ) (h : Wd E fz ops u (Q .normal) p st u) : (Code.region id ops true).wpIn (Fw C.ro) 0 E.P (QW C fz ws st Q) a wa := by
  unfold mkPlan at hp
  cases hs : Region.noSelect ops with
  | false => simp [hs] at hp
  | true =>
    simp only [hs, cond_true] at hp
    have hI' := hI.drew
    have key := Wd_sound (E := E) (u0 := u) (fz := fz) (Q := Q) (st0 := st) (stH := st) (θ0 := θ) hok hws hs hI.ghosts ops.size p _ st u a _ θ (Cl.none ops _) hp hI' (Pres.refl _ _ _ _) (.inl ⟨Below.refl _ _, ⟨rfl, fun _ _ _ => rfl, fun _ _ _ _ _ => rfl⟩⟩) h
    have hdf : ∀ (j : Nat) (o : Oper) c, ops[j]? = some o → o.op ≠ .defer c := by
      intro j o c ho
      have hj : ops.toList[j]? = some o := by simpa using ho
      exact okOper_defer (hok o (List.mem_of_getElem? hj)) c
    refine wpIn_mono (wpIn_region_any hm (wpAny_of_T C.ro hdf _ _ _ _ key)) fun e a' w' hq => ?_
    cases e with
    | normal => exact hq
    | _ => exact hq.elim

end
end Go.Eng

/-
  The engine, twelfth part: W is sound; from W to a function's contract.
-/
namespace Go.Eng
open Go.RowKit

section
variable {E : Env} {C : Ctx}

theorem Wl_sound {fz ws : List Nat} {ops : Array Oper} {Q : Exit → St → UW → Prop} {st0 : St} (hok : ∀ o ∈ ops.toList, okOper C.n o = true) (hws : ∀ o ∈ ops.toList, ∀ t, o.dst = some t → t ∈ ws) :
    ∀ (l : List Oper) (i : Nat), ops.toList.drop i = l → ∀ (st : St) (u : UW) (a : Act) (wa : World) (θ : Nat → Nat), Inv C a wa st u θ → Pres C.n fz ws st0 st → Wl E fz ops (Q .normal) l st u →
      wpOpsIn (Fw C.ro) 0 E.P ops (QW C fz ws st0 Q) (List.range' i l.length) a wa
  | [], i, _, st, u, a, wa, θ, hI, hP, h => ⟨st, u, θ, hI, hP, h⟩
  | o :: l, i, hd, st, u, a, wa, θ, hI, hP, h => by
    have hi : ops.toList[i]? = some o := by
      have := congrArg (·[0]?) hd
      simpa using this
    have hmem : o ∈ ops.toList := List.mem_of_getElem? hi
    have hoi : ops[i]? = some o := by simpa using hi
    have hd' : ops.toList.drop (i + 1) = l := by
      have := congrArg (List.drop 1) hd
      simpa [List.drop_drop, Nat.add_comm] using this
    have hoko := hok o hmem
    have presTo : ∀ {s s' : St}, Pres C.n fz ws st0 s → Pres C.n fz o.dst.toList s s' → Pres C.n fz ws st0 s' := by
      intro s s' h1 h2
      have := h1.trans h2
      refine this.mono (fun _ h => h) fun x hx => ?_
      rw [List.mem_append] at hx
      rcases hx with hx | hx
      · exact hx
      · cases hdst : o.dst with
        | none => simp [hdst] at hx
        | some d => simp only [hdst, Option.toList, List.mem_singleton] at hx; exact hws o hmem x (by rw [hdst, hx])
    have go : ∀ {s : St}, Inv C a wa s u θ → Pres C.n fz ws st0 s → W1 E fz o s u (fun st' w' => Wl E fz ops (Q .normal) l st' w') → o.wpIn (Fw C.ro) 0 E.P a wa (wpOpsIn (Fw C.ro) 0 E.P ops (QW C fz ws st0 Q) (List.range' (i + 1) l.length)) (QW C fz ws st0 Q) := by
      intro s hIs hPs h1
      have := W1_sound (Q := QW C fz ws st0 Q) hoko hIs h1
      refine wpIn_of_upon C.ro (okOper_defer hoko) (upon_mono (fun a' w' hp => ?_) this)
      obtain ⟨st', u', θ', hI', hP', _, _, hW⟩ := hp
      exact Wl_sound hok hws l (i + 1) hd' st' u' a' w' θ' hI' (presTo hPs hP') hW
    have skip : ∀ {s : St}, Inv C a wa s u θ → Pres C.n fz ws st0 s → Wl E fz ops (Q .normal) l (fin o s undef) u → (∀ f, o.about E.P wa a.eval = some f → (Fw C.ro).fn f) ∧ wpOpsIn (Fw C.ro) 0 E.P ops (QW C fz ws st0 Q) (List.range' (i + 1) l.length) (a.put o.dst undef) wa := by
      intro s hIs hPs h1
      exact ⟨fun _ _ => trivial, Wl_sound hok hws l (i + 1) hd' _ u _ wa θ (hIs.finP o.dst (dst_lt hoko) rfl) (presTo hPs (Pres.fin s o.dst (dst_lt hoko) hI.n_le undef)) h1⟩
    simp only [List.length_cons, List.range'_succ, wpOpsIn, hoi]
    simp only [Wl] at h
    cases hg : o.guard with
    | none =>
      simp only [hg] at h
      have hw : Region.wanted o (yielded ops a.tmps) = true := by simp [Region.wanted, hg]
      rw [if_pos hw]
      exact go hI hP h
    | some jb =>
      obtain ⟨j, b⟩ := jb
      simp only [hg] at h
      cases hgs : gslot ops j with
      | none => simp only [hgs] at h
      | some g =>
        simp only [hgs] at h
        have hgn : g < C.n := by
          unfold gslot at hgs
          cases hj : ops[j]? with
          | none => simp [hj] at hgs
          | some oj =>
            simp only [hj, Option.bind_some] at hgs
            exact dst_lt (hok oj (by have : ops.toList[j]? = some oj := by simpa using hj
                                     exact List.mem_of_getElem? this)) g hgs
        have hyl : yielded ops a.tmps j = match a.tmps.getD g undef with | .bool x => some x | _ => none := by
          unfold yielded
          unfold gslot at hgs
          rw [hgs, Option.bind_some, getD_some hI.size hgn]
          cases a.tmps.getD g undef <;> rfl
        have hslot := hI.slots g hgn
        split at h
        · rename_i c hc
          rw [hc, R_plain rfl] at hslot
          rw [hslot] at hyl
          have hw : Region.wanted o (yielded ops a.tmps) = (c == b) := by
            simp only [Region.wanted, hg, hyl]
            cases c <;> cases b <;> rfl
          rw [hw]
          cases c with
          | true =>
            simp only [CIf] at h
            rw [upd_self hc] at h
            cases b with
            | true => simp only at h; exact go hI hP h
            | false => simp only at h; exact skip hI hP h
          | false =>
            simp only [CIf] at h
            rw [upd_self hc] at h
            cases b with
            | true => simp only at h; exact skip hI hP h
            | false => simp only at h; exact go hI hP h
        · rename_i vs hc
          rw [hc, R_plain rfl] at hslot
          rw [hslot] at hyl
          have hw : Region.wanted o (yielded ops a.tmps) = false := by simp [Region.wanted, hg, hyl]
          rw [hw]
          exact skip hI hP h
        · exact h.elim

def okCode (n : Nat) : Code → Bool
  | .region _ ops _ => ops.toList.all (okOper n)
  | .seq a b => okCode n a && okCode n b
  | .cond c a b => okOp n c && okCode n a && okCode n b
  | .block _ a => okCode n a
  | .loop a => okCode n a
  | .rangeFunc f ps a b => okOp n f && ps.toList.all (fun p => Nat.blt p n) && okCode n a && okCode n b
  | _ => true

theorem least {p : Nat → Prop} (h : ∃ n, p n) : ∃ n, p n ∧ ∀ m, p m → n ≤ m := by
  obtain ⟨n, hn⟩ := h
  induction n using Nat.strongRecOn with
  | _ n ih =>
    by_cases h : ∃ m, m < n ∧ p m
    · obtain ⟨m, h1, h2⟩ := h; exact ih m h1 h2
    · exact ⟨n, hn, fun m hm => Nat.le_of_not_lt fun hlt => h ⟨m, hlt, hm⟩⟩

/-- A loop, with something beside the machine's state that goes down. -/
theorem wp_loopG {F : Fence} {n0 : Nat} {P : Program} {c : Code} {Q : Exit → Act → World → Prop} (I : Nat → Act → World → Prop)
    (round : ∀ n a w, I n a w → c.wpIn F n0 P (Exit.then (fun a' w' => ∃ m, m < n ∧ I m a' w') Q) a w) : ∀ (n : Nat) (a : Act) (w : World), I n a w → (Code.loop c).wpIn F n0 P Q a w := by
  classical
  intro n a w h0
  let μ : Act → World → Nat := fun a w => if h : ∃ n, I n a w then Classical.choose (least h) else 0
  refine wpIn_loop (fun a w => ∃ n, I n a w) μ ⟨n, h0⟩ fun a w hI => ?_
  have hs := Classical.choose_spec (least hI)
  have hμ : μ a w = Classical.choose (least hI) := by simp only [μ, dif_pos hI]
  refine wpIn_mono (round _ a w hs.1) fun e a' w' hq => ?_
  cases e with
  | normal =>
    obtain ⟨m, hm, hI'⟩ := hq
    have hx : ∃ n, I n a' w' := ⟨m, hI'⟩
    have hs' := Classical.choose_spec (least hx)
    have hμ' : μ a' w' = Classical.choose (least hx) := by simp only [μ, dif_pos hx]
    exact ⟨⟨m, hI'⟩, by rw [hμ, hμ']; exact Nat.lt_of_le_of_lt (hs'.2 m hI') hm⟩
  | _ => exact hq

theorem range'_range (n : Nat) : List.range' 0 n = List.range n := (List.range_eq_range').symm

/-- What W's soundness says of a piece of code. -/
def Sound (E : Env) (c : Code) : Prop := ∀ (C : Ctx), okCode C.n c = true → ∀ (fz : List Nat) (Q : Exit → St → UW → Prop) (st : St) (u : UW) (a : Act) (wa : World) (θ : Nat → Nat), Inv C a wa st u θ → W E fz c Q st u →
    c.wpIn (Fw C.ro) 0 E.P (QW C fz (writes c) st Q) a wa

theorem isLoop_cells {o : Obj} (h : isLoop o = true) : o.isCells = false := by cases o <;> simp_all [isLoop, Obj.isCells]

/-- A block is made that the engine does not know. -/
theorem Inv.allocHid {a : Act} {wa : World} {st : St} {u : UW} {θ : Nat → Nat} (hI : Inv C a wa st u θ) (o : Obj) (ho : o.isCells = false) : Inv C a (wa.alloc o) st u θ ∧ Hid u (wa.alloc o) wa.heap.size o := by
  have hB : Below wa.heap.size wa (wa.alloc o) := (Below.refl _ _).alloc (Nat.le_refl _) o
  refine ⟨hI.world (u' := u) (F := fun _ => False) (fun _ hf => hf.elim) (Below.toMod hB (Nat.le_refl _) _) ?_ (Mod.refl _ _) (fun b h1 _ h3 => by omega) (fun b hb => Nat.lt_of_lt_of_le (hI.pubs b hb) hB.size) (fun _ hb _ => hb), World.alloc_heap_new wa o, ho, fun hp => ?_, fun hl => ?_⟩
  · refine ⟨hI.below.os, hI.below.tape, hI.below.output, Nat.le_trans hI.below.size hB.size, fun b hb => ?_⟩
    rw [hB.block b (Nat.lt_of_lt_of_le hb hI.below.size)]
    exact hI.below.block b hb
  · have := hI.pubs _ hp; omega
  · have := hI.below.size; omega

theorem putObj_get {w : World} {l b : Nat} {o : Obj} (h : b ≠ l) : (w.putObj l o).heap[b]? = w.heap[b]? := World.putObj_heap_other h

/-- A loop's record turns, and the engine forgets it. -/
theorem Inv.forget {a : Act} {wa : World} {st : St} {u : UW} {θ : Nat → Nat} {l : Nat} {o o1 o2 : Obj} (hI : Inv C a wa st u θ) (hl : C.w1.heap.size ≤ l) (hu : u.heap[l]? = some o) (ho : isLoop o = true) (hw : wa.heap[l]? = some o1) (ho1 : isLoop o1 = true) :
    Inv C a (wa.putObj l o2) st ⟨u.toWorld.putObj l masked, fun b => u.pub b ∧ b ≠ l⟩ θ := by
  have hlu : l < u.heap.size := (Array.getElem?_eq_some_iff.1 hu).1
  have hlw : l < wa.heap.size := (Array.getElem?_eq_some_iff.1 hw).1
  have w01 := hI.w01
  have keep : ∀ {b : Nat} {ob : Obj}, b ≠ l → Hid u wa b ob → Hid ⟨u.toWorld.putObj l masked, fun b => u.pub b ∧ b ≠ l⟩ (wa.putObj l o2) b ob := fun {b ob} hne hh =>
    ⟨(putObj_get hne).trans hh.at_, hh.other, fun hp => hh.pub hp.1, fun hlt => (putObj_get hne).trans (hh.mask (by simpa using hlt))⟩
  refine ⟨hI.size, hI.n_le, ⟨fun d hd => ?_, hI.defers.nodup⟩, fun l0 r e => ?_, hI.slots, ?_, ?_, hI.inj, hI.fakes, hI.ghosts, ?_, ?_, ?_, ?_, hI.w01, ?_, hI.F0⟩
  · obtain ⟨r, e, hr, hh⟩ := hI.defers.each d hd
    refine ⟨r, e, hr, keep ?_ hh⟩
    rintro rfl
    have := hh.at_; rw [hw] at this; cases this; cases ho1
  · have hh := hI.round l0 r e
    refine keep ?_ hh
    rintro rfl
    have := hh.mask hlu; rw [hu] at this; cases this; cases ho
  · refine ⟨hI.below.os, hI.below.tape, hI.below.output, by simpa using hI.below.size, fun b hb => ?_⟩
    by_cases e : b = l
    · subst e; exact .inr (World.putObj_heap_same hlu)
    · have := hI.below.block b (by simpa using hb)
      show (u.toWorld.putObj l masked).heap[b]? = _ ∨ (u.toWorld.putObj l masked).heap[b]? = _
      rw [putObj_get e, putObj_get e]; exact this
  · intro k m hk
    obtain ⟨hmm, c, T, h1, h2, h3, h4, h5, h6⟩ := hI.boxes k m hk
    have hne : θ k ≠ l := by
      intro e; rw [e, hw] at h1; cases h1; cases ho1
    exact ⟨hmm, c, T, (putObj_get hne).trans h1, h2, h3, fun hp => h4 hp.1, h5, fun hlt => (putObj_get hne).trans (h6 (by simpa using hlt))⟩
  · intro b hb; simpa using hI.pubs b hb.1
  · exact ⟨hI.mod.os, hI.mod.tape, hI.mod.output, by simpa using hI.mod.size, fun b hb hF => (putObj_get (by omega)).trans (hI.mod.keep b hb hF)⟩
  · exact fun b hb hlt => hI.pubF b hb.1 hlt
  · exact ⟨hI.umod.os, hI.umod.tape, hI.umod.output, by simpa using hI.umod.size, fun b hb hF => (putObj_get (by omega)).trans (hI.umod.keep b hb hF)⟩
  · intro b h1 h2 h3
    exact (putObj_get (by omega)).trans (hI.hid b h1 h2 (by simpa using h3))

/-- A round's own record turns. -/
theorem Inv.turn {a : Act} {wa : World} {st : St} {u : UW} {θ : Nat → Nat} {l : Nat} {r : Loop} (hI : Inv C a wa st u θ) (hro : C.ro = some (l, r)) (r' : Loop) :
    Inv { C with w1 := C.w1.putObj l (.loop r'), ro := some (l, r') } a (wa.putObj l (.loop r')) st u θ := by
  have hl := hI.round l r hro
  have hlw : l < wa.heap.size := (Array.getElem?_eq_some_iff.1 hl.at_).1
  have keep : ∀ {b : Nat} {ob : Obj}, b ≠ l → Hid u wa b ob → Hid u (wa.putObj l (.loop r')) b ob := fun {b ob} hne hh => ⟨(putObj_get hne).trans hh.at_, hh.other, hh.pub, hh.mask⟩
  refine ⟨hI.size, hI.n_le, ⟨fun d hd => ?_, hI.defers.nodup⟩, fun l0 r0 e => ?_, hI.slots, ?_, ?_, hI.inj, hI.fakes, hI.ghosts, ?_, ?_, ?_, hI.umod, by simpa using hI.w01, ?_, hI.F0⟩
  · obtain ⟨r0, e, hr, hh⟩ := hI.defers.each d hd
    refine ⟨r0, e, by simpa using hr, keep ?_ hh⟩
    rintro rfl
    have := hh.at_; rw [hl.at_] at this; cases this
  · simp only [Option.some.injEq, Prod.mk.injEq] at e
    obtain ⟨rfl, rfl⟩ := e
    exact ⟨World.putObj_heap_same hlw, rfl, hl.pub, hl.mask⟩
  · refine ⟨hI.below.os, hI.below.tape, hI.below.output, by simpa using hI.below.size, fun b hb => ?_⟩
    by_cases e : b = l
    · subst e; exact .inr (hl.mask hb)
    · rw [putObj_get e]; exact hI.below.block b hb
  · intro k m hk
    obtain ⟨hmm, c, T, h1, h2, h3, h4, h5, h6⟩ := hI.boxes k m hk
    have hne : θ k ≠ l := by
      intro e; rw [e, hl.at_] at h1; cases h1
    exact ⟨hmm, c, T, (putObj_get hne).trans h1, h2, h3, h4, by simpa using h5, h6⟩
  · intro b hb; simpa using hI.pubs b hb
  · refine ⟨hI.mod.os, hI.mod.tape, hI.mod.output, by simpa using hI.mod.size, fun b hb hF => ?_⟩
    by_cases e : b = l
    · subst e
      show (wa.putObj b (.loop r')).heap[b]? = (C.w1.putObj b (.loop r')).heap[b]?
      rw [World.putObj_heap_same hlw, World.putObj_heap_same (by simpa using hb)]
    · show (wa.putObj l (.loop r')).heap[b]? = (C.w1.putObj l (.loop r')).heap[b]?
      rw [putObj_get e, putObj_get e]; exact hI.mod.keep b (by simpa using hb) hF
  · exact fun b hb hlt => hI.pubF b hb (by simpa using hlt)
  · intro b h1 h2 h3; exact hI.hid b h1 (by simpa using h2) h3

def recOf (r : Loop) (p : Option Code) : Obj := .loop { r with state := if p.isNone then .ready else .done, pending := p }

theorem exVs_elim2 {P : Program} : ∀ {ts : List TypeId} {F : List Value → Prop}, exVs P ts F → ∃ vs, vs.length = ts.length ∧ (∀ v ∈ vs, plain v = true) ∧ F vs
  | [], _, h => ⟨[], rfl, by simp, h⟩
  | t :: ts, F, h => by
    obtain ⟨v, hp, h⟩ := exV_elim h
    obtain ⟨vs, hl, hps, h⟩ := exVs_elim2 h
    exact ⟨v :: vs, by simp [hl], by simpa using ⟨hp, hps⟩, h⟩

theorem rndS_R {θ θ' : Nat → Nat} {σ : Fr} {t : Nat} {r : Value} (h : R θ (σ t) r) : R θ' (rndS σ t) r := by
  unfold rndS
  split
  · trivial
  · rename_i v hv
    have hp : plain (σ t) = true := by
      cases hx : σ t <;> first | rfl | (exact absurd hx (hv _ _ _))
    rw [R_plain hp] at h ⊢
    exact h

theorem rndS_fake {σ : Fr} {t k o : Nat} : rndS σ t ≠ fake k o := by
  unfold rndS
  split
  · intro h; cases h
  · rename_i v hv
    intro h
    exact hv _ _ _ h

theorem setPs_slots {θ : Nat → Nat} {n : Nat} : ∀ (ps : List Nat) (vs : List Value) (σ : Fr) (tm : Array Value), ps.length = vs.length → tm.size = n → (∀ p ∈ ps, p < n) → (∀ v ∈ vs, plain v = true) → (∀ t, t < n → R θ (σ t) (tm.getD t undef)) → (∀ t k o, σ t ≠ fake k o) →
    ((ps.zip vs).foldl (fun t (x : Nat × Value) => t.setIfInBounds x.1 x.2) tm).size = n ∧ (∀ t, t < n → R θ (setPs σ ps vs t) (((ps.zip vs).foldl (fun t (x : Nat × Value) => t.setIfInBounds x.1 x.2) tm).getD t undef)) ∧ ∀ t k o, setPs σ ps vs t ≠ fake k o
  | [], [], σ, tm, _, hs, _, _, h, hf => ⟨hs, h, hf⟩
  | p :: ps, v :: vs, σ, tm, hl, hs, hps, hvs, h, hf => by
    have hp : p < tm.size := by rw [hs]; exact hps p (by simp)
    have hpl := hvs v (by simp)
    simp only [List.zip_cons_cons, List.foldl_cons, setPs]
    refine setPs_slots ps vs (upd σ p v) (tm.setIfInBounds p v) (by simpa using hl) (by simpa using hs) (fun q hq => hps q (by simp [hq])) (fun w hw => hvs w (by simp [hw])) (fun t ht => ?_) (fun t k o e => ?_)
    · rw [getD_set _ _ _ _ hp]
      by_cases e : t = p
      · subst e; rw [if_pos rfl, upd_same]; exact R_refl hpl
      · rw [if_neg e, upd_ne _ _ e]; exact h t ht
    · by_cases e' : t = p
      · subst e'; rw [upd_same] at e; exact not_fake hpl k o e
      · rw [upd_ne _ _ e'] at e; exact hf t k o e
  | [], _ :: _, _, _, hl, _, _, _, _, _ => by simp at hl
  | _ :: _, [], _, _, hl, _, _, _, _, _ => by simp at hl

theorem foldl_zip (ps : Array Nat) (vs : List Value) (tm : Array Value) :
    (ps.zip vs.toArray).foldl (fun t (p, v) => t.setIfInBounds p v) tm = (ps.toList.zip vs).foldl (fun t (x : Nat × Value) => t.setIfInBounds x.1 x.2) tm := by
  rw [← Array.foldl_toList, Array.toList_zip]

/-- A call of yield runs a round. -/
theorem yield_sound {E : Env} {n : Nat} {x y : Code} {ps : Array Nat} {ts : List TypeId} {σ : Fr} {θ : Nat → Nat} {l : Nat} {r : Loop} (ihx : Sound E x) (ihy : Sound E y) (okx : okCode n x = true) (oky : okCode n y = true)
    (hn : n ≤ 65536) (hps : ∀ p ∈ ps.toList, p < n) (hts : ts.length = ps.toList.length) (hsz : r.tmps.size = n) (hsl : ∀ t, t < n → R θ (σ t) (r.tmps.getD t undef)) (hrp : r.params = ps) (hrx : r.assign = x) (hry : r.body = y)
    (vs : List Value) (w1 : World) (F : Nat → Prop) (RR : Option Code → UW → Prop) (hl : w1.heap[l]? = some (recOf r none)) (hF : ∀ b, F b → b < w1.heap.size ∧ b ≠ l)
    (h : exVs E.P ts fun vs' => vs = vs' ∧ W E [] x (normQ fun st1 u1 => W E [] y (roundQ RR) st1 u1) ⟨setPs (rndS σ) ps.toList vs', []⟩ ⟨w1.putObj l masked, F⟩) :
    ValB E.P (.func (.yield l) #[] #[]) vs w1 (fun b => F b ∨ b = l) fun v lo w2 => ∃ p pub w3, v = .bool p.isNone ∧ w2 = w3.putObj l (recOf r p) ∧ w3.heap[l]? = some masked ∧ (∀ b, pub b → F b ∨ lo ≤ b) ∧ RR p ⟨w3, pub⟩ := by
  intro wr1 hsees
  obtain ⟨vs', hlen, hpl, rfl, hW⟩ := exVs_elim2 h
  have hlw : l < w1.heap.size := (Array.getElem?_eq_some_iff.1 hl).1
  have hl1 : wr1.heap[l]? = some (recOf r none) := by
    rcases hsees.block l hlw with e | e
    · rw [← e]; exact hl
    · rw [hl] at e; cases e
  refine ⟨rfl, rfl, { r with state := .ready, pending := none }, hl1, by simp only [hrp]; rw [hlen, hts]; simp, roundIn_of_wpIn (F := Fence.wide) trivial ?_⟩
  simp only [hrp, hrx, hry]
  rw [foldl_zip]
  obtain ⟨z1, z2, z3⟩ := setPs_slots (θ := fun _ => 0) ps.toList vs (rndS σ) r.tmps (by omega) hsz hps hpl (fun t ht => rndS_R (hsl t ht)) (fun t k o => rndS_fake)
  have hI1 : Inv ⟨n, w1.putObj l masked, wr1, F, some (l, { r with state := .ready, pending := none })⟩ { tmps := (ps.toList.zip vs).foldl (fun t (x : Nat × Value) => t.setIfInBounds x.1 x.2) r.tmps, defers := [] } wr1 ⟨setPs (rndS σ) ps.toList vs, []⟩ ⟨w1.putObj l masked, F⟩ (fun _ => 0) := by
    refine ⟨z1, hn, ⟨by simp, List.nodup_nil⟩, fun l0 r0 e => ?_, z2, ?_, by simp, by simp, fun t _ k o e => absurd e (z3 t k o), by simp, fun b hb => Nat.lt_of_lt_of_le (hF b hb).1 hsees.size, Mod.refl _ _, fun b hb _ => hb, Mod.refl _ _, by simpa using hsees.size, fun b h1 _ h3 => absurd h3 (Nat.not_lt.2 h1), fun b hb => by simpa using (hF b hb).1⟩
    · simp only [Option.some.injEq, Prod.mk.injEq] at e
      obtain ⟨rfl, rfl⟩ := e
      exact ⟨hl1, rfl, fun hp => (hF _ hp).2 rfl, fun _ => World.putObj_heap_same hlw⟩
    · refine ⟨hsees.os, hsees.tape, hsees.output, by simpa using hsees.size, fun b hb => ?_⟩
      by_cases e : b = l
      · subst e; exact .inr (World.putObj_heap_same hlw)
      · show (w1.putObj l masked).heap[b]? = _ ∨ (w1.putObj l masked).heap[b]? = _
        rw [putObj_get e]; exact hsees.block b (by simpa using hb)
  refine wpIn_mono (ihx ⟨n, w1.putObj l masked, wr1, F, some (l, { r with state := .ready, pending := none })⟩ okx [] _ _ _ _ _ _ hI1 hW) fun e a2 wa2 hq => ?_
  obtain ⟨st2, u2, θ2, hI2, _, hq⟩ := hq
  cases e with
  | normal =>
    refine ⟨_, run_beginRound (hI2.round l _ rfl).at_ rfl, ?_⟩
    have hI3 := hI2.turn rfl { r with state := .busy, pending := none }
    refine wpIn_mono (ihy _ oky [] _ _ _ _ _ _ hI3 hq) fun e a3 wa3 hq => ?_
    obtain ⟨st3, u3, θ3, hI4, _, hq⟩ := hq
    have hh := hI4.round l _ rfl
    have hlw3 : l < wa3.heap.size := (Array.getElem?_eq_some_iff.1 hh.at_).1
    have hus : w1.heap.size ≤ u3.heap.size := by simpa using hI4.umod.size
    have done : ∀ (p : Option Code), RR p u3 → ∃ v w', (Instr.endRound l p).run E.P wa3 = .ok v w' ∧ ∃ v' w'', Ending.returned v = .returned v' ∧ Out (fun b => F b ∨ b = l) w1 wr1 w'' w' ∧ ∃ p' pub w3, v' = .bool p'.isNone ∧ w'' = w3.putObj l (recOf r p') ∧ w3.heap[l]? = some masked ∧ (∀ b, pub b → F b ∨ wr1.heap.size ≤ b) ∧ RR p' ⟨w3, pub⟩ := by
      intro p hR
      refine ⟨_, _, run_endRound p hh.at_, _, u3.toWorld.putObj l (recOf r p), rfl, ⟨?_, ?_, ?_, ?_⟩, p, u3.pub, u3.toWorld, rfl, rfl, hh.mask (by omega), fun b hb => ?_, hR⟩
      · refine ⟨hI4.mod.os, hI4.mod.tape, hI4.mod.output, by simpa using hI4.mod.size, fun b hb hnF => ?_⟩
        have hne : b ≠ l := fun e => hnF (.inr e)
        rw [putObj_get hne, hI4.mod.keep b (by simpa using hb) (fun hf => hnF (.inl hf))]
        exact putObj_get hne
      · refine ⟨hI4.below.os, hI4.below.tape, hI4.below.output, by simpa using hI4.below.size, fun b hb => ?_⟩
        by_cases e : b = l
        · subst e
          left
          rw [World.putObj_heap_same (by simpa using hb), World.putObj_heap_same hlw3]
          rfl
        · rw [putObj_get e, putObj_get e]; exact hI4.below.block b (by simpa using hb)
      · refine ⟨hI4.umod.os, hI4.umod.tape, hI4.umod.output, by simpa using hus, fun b hb hnF => ?_⟩
        have hne : b ≠ l := fun e => hnF (.inr e)
        rw [putObj_get hne, hI4.umod.keep b (by simpa using hb) (fun hf => hnF (.inl hf))]
        exact putObj_get hne
      · intro b h1 h2 h3
        rw [putObj_get (by omega)]
        exact hI4.hid b (by simpa using h1) (by simpa using h2) (by simpa using h3)
      · by_cases hlt : b < wr1.heap.size
        · exact .inl (hI4.pubF b hb (by simpa using hlt))
        · exact .inr (by omega)
    cases e with
    | normal => exact done none hq
    | ret => exact done (some .ret) hq
    | exit i => exact done (some (.exit i)) hq
    | goto i => exact hq.elim
    | panic c => exact hq.elim
    | outgrown => exact hq.elim
  | exit i => exact hq.elim
  | goto i => exact hq.elim
  | ret => exact hq.elim
  | panic c => exact hq.elim
  | outgrown => exact hq.elim

theorem lookP_elim {Q : Nat → Prop} {i : Nat} : ∀ {l : List Nat}, lookP (l.map fun j => (j, Q j)) i → Q i
  | [], h => h.elim
  | j :: l, h => by
    simp only [List.map_cons, lookP, Bool.cond_eq_ite, beq_iff] at h
    split at h
    · rename_i e; subst e; exact h
    · exact lookP_elim h

theorem range_sound {E : Env} {f : Operand} {ps : Array Nat} {x y : Code} (ihx : Sound E x) (ihy : Sound E y) : Sound E (.rangeFunc f ps x y) := by
  intro C hokc fz Q st u a wa θ hI h
  simp only [okCode, Bool.and_eq_true, List.all_eq_true] at hokc
  obtain ⟨⟨⟨hof, hps⟩, hox⟩, hoy⟩ := hokc
  simp only [W] at h
  cases hts : look E.rngs (ps.toList.headD 0) with
  | none => simp only [hts] at h
  | some ts =>
    simp only [hts] at h
    obtain ⟨hlen, ⟨g, fa, fb, hfv⟩, h⟩ := bif_elim h
    have hlen := beq_iff.1 hlen
    have hef : a.eval f = .func (.func g) fa fb := ev_val hI hof hfv rfl
    refine wpIn_rangeFunc fun fn _ => ?_
    obtain ⟨D, l, mark, pre, hent, hle, hIp⟩ : ∃ (D l : Nat) (mark : List Deferred) (pre : World), (Instr.enterLoop fn a.tmps ps x y (Fw C.ro).round).run E.P wa = .ok (l, mark) (pre.alloc (.loop { state := .ready, pending := none, fn, tmps := a.tmps, params := ps, assign := x, body := y, defers := D })) ∧
        l = pre.heap.size ∧ Inv C { a with defers := mark ++ a.defers } pre st u θ := by
      cases hro : C.ro with
      | none =>
        obtain ⟨hI1, hh⟩ := hI.allocHid (.deferred (some [])) rfl
        refine ⟨wa.heap.size, wa.heap.size + 1, _, wa.alloc (.deferred (some [])), run_enterLoop_outer fn a.tmps ps x y, by simp, ⟨hI1.size, hI1.n_le, ⟨fun d hd => ?_, ?_⟩, hI1.round, hI1.slots, hI1.below, hI1.boxes, hI1.inj, hI1.fakes, hI1.ghosts, hI1.pubs, hI1.mod, hI1.pubF, hI1.umod, hI1.w01, hI1.hid, hI1.F0⟩⟩
        · simp only [List.cons_append, List.nil_append, List.mem_cons] at hd
          rcases hd with rfl | hd
          · exact ⟨wa.heap.size, rfl, hI.mod.size, hh⟩
          · exact hI1.defers.each d hd
        · simp only [List.cons_append, List.nil_append]
          refine List.nodup_cons.2 ⟨fun hd => ?_, hI1.defers.nodup⟩
          obtain ⟨r, e, _, hr⟩ := hI.defers.each _ hd
          simp only [Deferred.mk.injEq, Target.collected.injEq] at e
          have := (Array.getElem?_eq_some_iff.1 hr.at_).1
          omega
      | some lr =>
        obtain ⟨l0, r0⟩ := lr
        exact ⟨r0.defers, wa.heap.size, [], wa, run_enterLoop_inner (hI.round l0 r0 hro).at_ fn a.tmps ps x y, rfl, hI⟩
    subst hle
    obtain ⟨r, hr⟩ : ∃ r : Loop, r = { state := .ready, pending := none, fn, tmps := a.tmps, params := ps, assign := x, body := y, defers := D } := ⟨_, rfl⟩
    rw [← hr] at hent
    obtain ⟨w', hborn, hI2⟩ := hIp.born (.loop r)
    have hrn : recOf r none = .loop r := by rw [hr]; rfl
    have hcall := h pre.heap.size (recOf r) w' (fun p => rfl) (by rw [hrn]; exact hborn) (fun vs w1 F RR hl hF hb =>
      yield_sound (θ := θ) ihx ihy hox hoy hI.n_le (fun p hp => blt_iff.1 (hps p hp)) hlen (by rw [hr]; exact hI.size) (by rw [hr]; exact hI.slots) (by rw [hr]) (by rw [hr]) (by rw [hr]) vs w1 F RR hl hF hb)
    obtain ⟨F, hF, hcall⟩ := CallV_iff.1 hcall
    have hc := hcall _ hI2.below
    rw [hfv] at hc
    obtain ⟨hcl, hc⟩ := hc
    refine ⟨pre.heap.size, mark, pre.alloc (.loop r), { target := .fn (.func g) fb, args := fa ++ #[.func (.yield pre.heap.size) #[] #[]] }, pre.alloc (.loop r), g, fa ++ #[.func (.yield pre.heap.size) #[] #[]] ++ fb, pre.alloc (.loop r), hent, ?_, fun _ _ => trivial, ?_, fun h => (by cases h), ?_⟩
    · simp [resolve, hef, Deferred.ofValue]; rfl
    · simp only [invoke]
      exact run_callFunc hcl
    · have hargs : (fa ++ #[Value.func (.yield pre.heap.size) #[] #[]] ++ fb) = (fa.toList ++ [Value.func (.yield pre.heap.size) #[] #[]] ++ fb.toList).toArray := by
        apply Array.toList_inj.1; simp
      rw [hargs]
      refine callsIn_wide.2 (hc.mono fun e wr hp => ?_)
      obtain ⟨v, w2, rfl, hout, p, hrec, hK⟩ := hp
      have hI3 := hI2.ret hF hout
      have hrl : wr.heap[pre.heap.size]? = some (recOf r p) := by
        rcases hI3.below.block _ (Array.getElem?_eq_some_iff.1 hrec).1 with e | e
        · rw [← e]; exact hrec
        · rw [hrec] at e; cases e
      refine ⟨p, _, run_endLoop hrl (by cases p <;> simp), ?_⟩
      have hI4 := hI3.forget (o2 := .loop { r with state := .exhausted, pending := p }) hIp.mod.size hrec rfl hrl rfl
      have hP : Pres C.n fz (writes (.rangeFunc f ps x y)) st st := Pres.refl _ _ _ _
      unfold PK at hK
      split at hK
      · exact ⟨st, _, θ, hI4, hP, hK⟩
      · refine wpIn_ret ⟨st, _, θ, hI4, hP, ?_⟩
        exact (bif_elim hK).2
      · refine wpIn_exit ⟨st, _, θ, hI4, hP, ?_⟩
        exact lookP_elim (Q := fun i => Q (.exit i) st _) hK
      · exact hK.elim

theorem W_sound (c : Code) : Sound E c := by
  induction c with
  | skip => intro C hokc fz Q st u a wa θ hI h; exact wpIn_skip ⟨st, u, θ, hI, Pres.refl _ _ _ _, h⟩
  | ret => intro C hokc fz Q st u a wa θ hI h; exact wpIn_ret ⟨st, u, θ, hI, Pres.refl _ _ _ _, h⟩
  | exit i => intro C hokc fz Q st u a wa θ hI h; exact wpIn_exit ⟨st, u, θ, hI, Pres.refl _ _ _ _, h⟩
  | region id ops draw =>
    intro C hokc fz Q st u a wa θ hI h
    simp only [okCode, List.all_eq_true] at hokc
    cases draw with
    | true =>
      simp only [W] at h
      obtain ⟨hm, h⟩ := bif_elim h
      cases hiq : isQ E.priv id with
      | true =>
        rw [hiq] at h
        simp only [cond_true] at h
        cases hp : mkPlanQ ops with
        | none => simp only [hp] at h
        | some p =>
          simp only [hp] at h
          exact Wq_region hm hokc (fun o ho t ht => by simp only [writes, List.mem_filterMap]; exact ⟨o, ho, ht⟩) hp hI h
      | false =>
      rw [hiq] at h
      simp only [cond_false] at h
      cases hp : mkPlan ops with
      | none => simp only [hp] at h
      | some p =>
        simp only [hp] at h
        exact Wd_region hm hokc (fun o ho t ht => by simp only [writes, List.mem_filterMap]; exact ⟨o, ho, ht⟩) hp hI h
    | false =>
      simp only [W] at h
      refine wpIn_region ?_
      have := Wl_sound (E := E) (Q := Q) (st0 := st) (ws := writes (.region id ops false)) hokc (fun o ho t ht => by simp only [writes, List.mem_filterMap]; exact ⟨o, ho, ht⟩) ops.toList 0 rfl st u a wa θ hI (Pres.refl _ _ _ _) h
      rw [Array.length_toList, range'_range] at this
      exact this
  | seq x y ihx ihy =>
    intro C hokc fz Q st u a wa θ hI h
    simp only [okCode, Bool.and_eq_true] at hokc
    simp only [W] at h
    refine wpIn_seq ?_
    split at h
    · refine wpIn_mono (ihx C hokc.1 fz _ st u a wa θ hI h) fun e a' wa' hq => ?_
      obtain ⟨st', u', θ', hI', hP', hq⟩ := hq
      cases e with
      | normal =>
        refine wpIn_mono (ihy C hokc.2 fz Q st' u' a' wa' θ' hI' hq) fun e a'' wa'' hq => ?_
        obtain ⟨st'', u'', θ'', hI'', hP'', hq⟩ := hq
        exact ⟨st'', u'', θ'', hI'', hP'.trans hP'', hq⟩
      | exit i => exact ⟨st', u', θ', hI', hP'.mono (fun _ h => h) (fun _ h => List.mem_append_left _ h), hq⟩
      | goto i => exact ⟨st', u', θ', hI', hP'.mono (fun _ h => h) (fun _ h => List.mem_append_left _ h), hq⟩
      | ret => exact ⟨st', u', θ', hI', hP'.mono (fun _ h => h) (fun _ h => List.mem_append_left _ h), hq⟩
      | panic i => exact ⟨st', u', θ', hI', hP'.mono (fun _ h => h) (fun _ h => List.mem_append_left _ h), hq⟩
      | outgrown => exact ⟨st', u', θ', hI', hP'.mono (fun _ h => h) (fun _ h => List.mem_append_left _ h), hq⟩
    · rename_i cut _
      obtain ⟨hl, J, hA, hB⟩ := bif_elim h
      have weak : ∀ {s : St}, Pres C.n (freeze fz st.D cut) (writes x) st s → Pres C.n fz (writes x ++ writes y) st s := fun hp =>
        hp.mono (fun z hz => List.mem_append_left _ hz) (fun z hz => List.mem_append_left _ hz)
      refine wpIn_mono (ihx C hokc.1 (freeze fz st.D cut) _ st u a wa θ hI hA) fun e a' wa' hq => ?_
      obtain ⟨st', u', θ', hI', hP', hq⟩ := hq
      cases e with
      | normal =>
        simp only [thenQ, toJ] at hq
        obtain ⟨hs, hq⟩ := bif_elim hq
        cases hgl : getLive st' cut.live with
        | none => simp only [hgl] at hq
        | some s =>
          simp only [hgl] at hq
          obtain ⟨hIm, hPm⟩ := mix_ok hI hI' hP' hl hs hgl
          refine wpIn_mono (ihy C hokc.2 fz Q _ u' a' wa' θ' hIm (hB s u' hq)) fun e a'' wa'' hq => ?_
          obtain ⟨st'', u'', θ'', hI'', hP'', hq⟩ := hq
          exact ⟨st'', u'', θ'', hI'', hPm.trans hP'', hq⟩
      | exit i => exact ⟨st', u', θ', hI', weak hP', hq⟩
      | goto i => exact ⟨st', u', θ', hI', weak hP', hq⟩
      | ret => exact ⟨st', u', θ', hI', weak hP', hq⟩
      | panic i => exact ⟨st', u', θ', hI', weak hP', hq⟩
      | outgrown => exact ⟨st', u', θ', hI', weak hP', hq⟩
  | cond c x y ihx ihy =>
    intro C hokc fz Q st u a wa θ hI h
    simp only [okCode, Bool.and_eq_true] at hokc
    obtain ⟨⟨hc, hx⟩, hy⟩ := hokc
    simp only [W] at h
    split at h
    · rename_i t ht
      refine wpIn_cond (ev_val hI hc ht rfl) ?_
      cases t with
      | true =>
        refine wpIn_mono (ihx C hx fz Q st u a wa θ hI h) fun e a' wa' hq => ?_
        obtain ⟨st', u', θ', hI', hP', hq⟩ := hq
        exact ⟨st', u', θ', hI', hP'.mono (fun _ h => h) (fun _ h => List.mem_append_left _ h), hq⟩
      | false =>
        refine wpIn_mono (ihy C hy fz Q st u a wa θ hI h) fun e a' wa' hq => ?_
        obtain ⟨st', u', θ', hI', hP', hq⟩ := hq
        exact ⟨st', u', θ', hI', hP'.mono (fun _ h => h) (fun _ h => List.mem_append_right _ h), hq⟩
    · exact h.elim
  | block id x ih =>
    intro C hokc fz Q st u a wa θ hI h
    simp only [W] at h
    refine wpIn_block (wpIn_mono (ih C hokc fz _ st u a wa θ hI h) fun e a' wa' hq => ?_)
    obtain ⟨st', u', θ', hI', hP', hq⟩ := hq
    cases e with
    | exit i =>
      simp only [blockQ, Bool.cond_eq_ite, beq_iff] at hq
      simp only [Exit.inBlock]
      split at hq
      · rename_i e; rw [if_pos e]; exact ⟨st', u', θ', hI', hP', hq⟩
      · rename_i e; rw [if_neg e]; exact ⟨st', u', θ', hI', hP', hq⟩
    | normal => exact ⟨st', u', θ', hI', hP', hq⟩
    | goto i => exact ⟨st', u', θ', hI', hP', hq⟩
    | ret => exact ⟨st', u', θ', hI', hP', hq⟩
    | panic i => exact ⟨st', u', θ', hI', hP', hq⟩
    | outgrown => exact ⟨st', u', θ', hI', hP', hq⟩
  | loop x ih =>
    intro C hokc fz Q st u a wa θ hI h
    simp only [W] at h
    split at h
    · exact h.elim
    · rename_i cut _
      obtain ⟨hl, h⟩ := bif_elim h
      simp only [toJ] at h
      obtain ⟨hs, h⟩ := bif_elim h
      cases hgl : getLive st cut.live with
      | none => simp only [hgl] at h
      | some s0 =>
        simp only [hgl] at h
        obtain ⟨I, ⟨n0, hI0⟩, hround⟩ := h
        have hP0 : Pres C.n (freeze fz st.D cut) (writes x) st st := Pres.refl _ _ _ _
        obtain ⟨hIm, hPm⟩ := mix_ok hI hI hP0 hl hs hgl
        refine wp_loopG (fun n a' wa' => ∃ s u' θ', Inv C a' wa' (mix st (writes x) cut s) u' θ' ∧ I n s u' ∧ Pres C.n fz (writes x) st (mix st (writes x) cut s)) ?_ n0 a wa ⟨s0, u, θ, hIm, hI0, hPm⟩
        intro n a' wa' hh
        obtain ⟨s, u', θ', hI', hIs, hPs⟩ := hh
        have hb := hround n s u' hIs
        refine wpIn_mono (ih C hokc _ _ _ u' a' wa' θ' hI' hb) fun e a'' wa'' hq => ?_
        obtain ⟨st2, u2, θ2, hI2, hP2, hq⟩ := hq
        have hP2' : Pres C.n fz (writes x) st st2 := by
          have := hPs.trans (hP2.mono (fz' := fz) (fun z hz => List.mem_append_left _ hz) (fun z hz => hz))
          exact this.mono (fun _ h => h) (fun z hz => by rw [List.mem_append] at hz; exact hz.elim id id)
        cases e with
        | normal =>
          simp only [thenQ, toJ] at hq
          obtain ⟨hs2, hq⟩ := bif_elim hq
          cases hgl2 : getLive st2 cut.live with
          | none => simp only [hgl2] at hq
          | some s2 =>
            simp only [hgl2] at hq
            have hfr : Pres C.n (freeze fz st.D cut) (writes x) st st2 := by
              have h1 : Pres C.n (freeze fz st.D cut) (writes x) st (mix st (writes x) cut s) := ⟨hPs.slot, hPs.D, fun k hk m hm j hj => ?_⟩
              · have := h1.trans hP2
                exact this.mono (fun _ h => h) (fun z hz => by rw [List.mem_append] at hz; exact hz.elim id id)
              · exact (mix_frz hI hl (writes x) s) k hk m hm j hj
            obtain ⟨hIm2, hPm2⟩ := mix_ok hI hI2 hfr hl hs2 hgl2
            obtain ⟨m, hm, hq⟩ := hq
            exact ⟨m, hm, s2, u2, θ2, hIm2, hq, hPm2⟩
        | exit i => exact ⟨st2, u2, θ2, hI2, hP2', hq⟩
        | goto i => exact ⟨st2, u2, θ2, hI2, hP2', hq⟩
        | ret => exact ⟨st2, u2, θ2, hI2, hP2', hq⟩
        | panic i => exact ⟨st2, u2, θ2, hI2, hP2', hq⟩
        | outgrown => exact ⟨st2, u2, θ2, hI2, hP2', hq⟩
  | rangeFunc f ps x y ihx ihy => exact range_sound ihx ihy
  | scope x ih => intro C hokc fz Q st u a wa θ hI h; exact h.elim
  | label l => intro C hokc fz Q st u a wa θ hI h; exact h.elim
  | goto l => intro C hokc fz Q st u a wa θ hI h; exact h.elim
  | refuse s => intro C hokc fz Q st u a wa θ hI h; exact h.elim

end
end Go.Eng
