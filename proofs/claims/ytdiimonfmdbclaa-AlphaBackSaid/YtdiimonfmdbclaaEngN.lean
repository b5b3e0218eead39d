import Derived.Test.YtdiimonfmdbclaaEngK
/-
  The engine: regions that draw their order.
-/
namespace Go.Eng
open Go.RowKit

/-- Behind a piece of code. -/
def QW (C : Ctx) (fz ws : List Nat) (st : St) (Q : Exit → St → UW → Prop) (e : Exit) (a' : Act) (wa' : World) : Prop :=
  ∃ st' u' θ', Inv C a' wa' st' u' θ' ∧ Pres C.n fz ws st st' ∧ Q e st' u'

theorem getD_some {a : Array Value} {g n : Nat} (hs : a.size = n) (hg : g < n) : a[g]? = some (a.getD g undef) := by
  rw [Array.getD_eq_getD_getElem?, Array.getElem?_eq_getElem (by omega)]; rfl

theorem upd_self {σ : Fr} {t : Nat} {v : Value} (h : σ t = v) : upd σ t v = σ := by
  funext i
  by_cases e : i = t
  · subst e; rw [upd_same, h]
  · rw [upd_ne _ _ e]

/-! ### orders: an operation that only reads may be taken first -/
section
variable {P : Program} {ops : Array Oper} {Q : Exit → Act → World → Prop} {S : World → Prop}

/-- One operation, calls of yield taken in. -/
def wpOpR (P : Program) (ops : Array Oper) (Q : Exit → Act → World → Prop) (i : Nat) (K : Act → World → Prop) (a : Act) (w : World) : Prop :=
  match ops[i]? with
  | none => K a w
  | some o => if Region.wanted o (yielded ops a.tmps) then o.uponIn Fence.wide 0 P a K Q ((execOp a.eval o).run P w) else K (a.put o.dst undef) w

theorem upon_mono {o : Oper} {a : Act} {K K' : Act → World → Prop} {r : Result Next} (h : ∀ a w, K a w → K' a w) (hh : o.uponIn Fence.wide 0 P a K Q r) : o.uponIn Fence.wide 0 P a K' Q r := by
  cases r with
  | halt x w => cases x <;> exact hh
  | ok x w =>
    cases x <;> simp only [Oper.uponIn] at hh ⊢
    case value v => exact h _ _ hh
    case skip => exact h _ _ hh
    case defer d => exact h _ _ hh
    case enter f args => exact ⟨hh.1, hh.2.mono fun e w' he => by cases e <;> first | exact h _ _ he | exact he⟩
    case row r args => exact ⟨hh.1, hh.2.mono fun v w' he => h _ _ he⟩
    case round l f t x y => exact ⟨hh.1, hh.2.mono fun e w' he => by cases e <;> first | exact h _ _ he | exact he⟩

theorem wpOpR_mono {i : Nat} {a : Act} {w : World} {K K' : Act → World → Prop} (h : ∀ a w, K a w → K' a w) (hh : wpOpR P ops Q i K a w) : wpOpR P ops Q i K' a w := by
  unfold wpOpR at *
  cases ho : ops[i]? with
  | none => simp only [ho] at hh ⊢; exact h _ _ hh
  | some o =>
    simp only [ho] at hh ⊢
    split <;> rename_i hw <;> simp only [hw, if_true, if_false, Bool.false_eq_true] at hh
    · exact upon_mono h hh
    · exact h _ _ hh

theorem yieldsR {i : Nat} {o : Oper} {v : Value} {a : Act} {K : Act → World → Prop} {w : World} (hi : ops[i]? = some o) (hy : YieldsIf P ops S o v a) (hS : S w) (h : K (a.put o.dst v) w) : wpOpR P ops Q i K a w := by
  unfold wpOpR
  simp only [hi]
  rcases hy with ⟨hw, hv⟩ | ⟨hw, rfl⟩
  · rw [if_pos hw, hv w hS]; exact h
  · rw [if_neg (by simp [hw])]; exact h

/-- An operation that stands apart from one that only reads. -/
theorem wpOpR_put {j : Nat} {oi oj : Oper} {v : Value} {K : Act → World → Prop} {a : Act} {w : World} (hj : ops[j]? = some oj) (hap : oi.apart ops oj = true)
    (hsi : ∀ cs b, oi.op ≠ .select cs b) (hsj : ∀ cs b, oj.op ≠ .select cs b) (hQ : ∀ c a w, Q (.panic c) (a.put oi.dst v) w → Q (.panic c) a w)
    (hy : YieldsIf P ops S oi v a) (h : wpOpR P ops Q j K (a.put oi.dst v) w) : wpOpR P ops Q j (fun a' w' => YieldsIf P ops S oi v a' ∧ K (a'.put oi.dst v) w') a w := by
  obtain ⟨h1, h2, h3⟩ := Oper.apart_spec hap
  have st : ∀ (b : Act) (x : Value), YieldsIf P ops S oi v b → YieldsIf P ops S oi v (b.put oj.dst x) := fun b x hb => hb.of_same (execOp_put oi hsi b oj.dst x h3) (wanted_put oi b oj.dst x h3)
  have both : ∀ (x : Value) (w' : World), K ((a.put oi.dst v).put oj.dst x) w' → YieldsIf P ops S oi v (a.put oj.dst x) ∧ K ((a.put oj.dst x).put oi.dst v) w' :=
    fun x w' hk => ⟨st a x hy, by rw [← Act.put_comm a v x h2]; exact hk⟩
  unfold wpOpR at h ⊢
  simp only [hj, wanted_put oj a oi.dst v h1, execOp_put oj hsj a oi.dst v h1] at h ⊢
  split <;> rename_i hw <;> simp only [hw, if_true, if_false, Bool.false_eq_true] at h
  · cases hr : (execOp a.eval oj).run P w with
    | halt x w' =>
      rw [hr] at h
      cases x <;> simp only [Oper.uponIn] at h ⊢
      exact hQ _ _ _ h
    | ok x w' =>
      rw [hr] at h
      cases x <;> simp only [Oper.uponIn] at h ⊢
      case value x => exact both x w' h
      case skip => exact both undef w' h
      case defer d =>
        refine ⟨st _ _ (hy.of_same rfl rfl), ?_⟩
        rw [← Act.put_comm _ v undef h2, ← Act.put_defers]; exact h
      case enter f args =>
        exact ⟨h.1, h.2.mono fun e w'' he => by cases e <;> first | exact both _ _ he | exact hQ _ _ _ he | exact he⟩
      case row r args => exact ⟨h.1, h.2.mono fun x w'' he => both x w'' he⟩
      case round l f t x y =>
        exact ⟨h.1, h.2.mono fun e w'' he => by cases e <;> first | exact both _ _ he | exact hQ _ _ _ he | exact he⟩
  · exact both undef w h

def Fw (ro : Option (Nat × Loop)) : Fence := { Fence.wide with round := ro.map (·.1) }

theorem upon_fence (ro : Option (Nat × Loop)) {o : Oper} {a : Act} {K : Act → World → Prop} {r : Result Next} (h : o.uponIn Fence.wide 0 P a K Q r) : o.uponIn (Fw ro) 0 P a K Q r := by
  cases r with
  | halt x w => cases x <;> exact h
  | ok x w => cases x <;> exact h

theorem wpIn_of_upon (ro : Option (Nat × Loop)) {o : Oper} {a : Act} {w : World} {K : Act → World → Prop} (hd : ∀ c, o.op ≠ .defer c) (h : o.uponIn Fence.wide 0 P a K Q ((execOp a.eval o).run P w)) : o.wpIn (Fw ro) 0 P a w K Q :=
  ⟨fun _ _ => trivial, by rw [Oper.semAt_eq _ _ _ hd]; exact upon_fence ro h⟩

theorem wpOpIn_of_R (ro : Option (Nat × Loop)) {i : Nat} {a : Act} {w : World} {K : Act → World → Prop} (hd : ∀ (j : Nat) (o : Oper) c, ops[j]? = some o → o.op ≠ .defer c) (h : wpOpR P ops Q i K a w) : wpOpIn (Fw ro) 0 P ops Q i K a w := by
  unfold wpOpR at h
  unfold wpOpIn
  cases ho : ops[i]? with
  | none => simp only [ho] at h ⊢; exact h
  | some o =>
    simp only [ho] at h ⊢
    split <;> rename_i hw <;> simp only [hw, if_true, if_false, Bool.false_eq_true] at h
    · exact wpIn_of_upon ro (fun c => hd i o c ho) h
    · exact ⟨fun _ _ => trivial, h⟩

def wpAnyT (P : Program) (ops : Array Oper) (Q : Exit → Act → World → Prop) (S : World → Prop) : Nat → Array Bool → Act → World → Prop
  | 0, listed, a, w => Region.ready .any ops listed = [] ∧ Q .normal a w
  | fuel + 1, listed, a, w =>
    (Region.ready .any ops listed = [] → Q .normal a w) ∧
    ∀ i ∈ Region.ready .any ops listed, wpOpR P ops Q i (fun a' w' => (late ops i = true → S w → S w') ∧ wpAnyT P ops Q S fuel (listed.setIfInBounds i true) a' w') a w

theorem wpAny_of_T (ro : Option (Nat × Loop)) (hd : ∀ (j : Nat) (o : Oper) c, ops[j]? = some o → o.op ≠ .defer c) : ∀ (fuel : Nat) (listed : Array Bool) (a : Act) (w : World), wpAnyT P ops Q S fuel listed a w → wpAnyIn (Fw ro) 0 P .any ops Q fuel listed a w
  | 0, _, _, _, h => h
  | fuel + 1, _, _, _, h => ⟨h.1, fun i hi => wpOpIn_mono (fun a' w' h' => wpAny_of_T ro hd fuel _ a' w' h'.2) (wpOpIn_of_R ro hd (h.2 i hi))⟩

/-- What is listed is closed under 'must come ahead'. -/
def Cl (ops : Array Oper) (listed : Array Bool) : Prop := ∀ y oy, ops[y]? = some oy → listed.getD y false = true → ∀ e ∈ oy.after, Region.binds .any e = true → listed.getD e.on false = true

theorem Cl.none (ops : Array Oper) (n : Nat) : Cl ops (Array.replicate n false) := by
  intro y oy _ h
  rw [Array.getD_eq_getD_getElem?, Array.getElem?_replicate] at h
  split at h <;> simp at h

theorem Cl.set {listed : Array Bool} {i : Nat} (h : Cl ops listed) (hi : i ∈ Region.ready .any ops listed) : Cl ops (listed.setIfInBounds i true) := by
  have mono : ∀ x, listed.getD x false = true → (listed.setIfInBounds i true).getD x false = true := by
    intro x hx
    by_cases hix : i = x
    · subst hix
      have : i < listed.size := by
        rcases Nat.lt_or_ge i listed.size with h' | h'
        · exact h'
        · rw [Array.getD_eq_getD_getElem?, Array.getElem?_eq_none h'] at hx; cases hx
      simp [Array.getD_eq_getD_getElem?, this]
    · rw [getD_set_ne false hix]; exact hx
  intro y oy hy hl e he hb
  by_cases hiy : i = y
  · subst hiy
    obtain ⟨_, oj, hoj, hall⟩ := mem_ready.1 hi
    rw [hoj] at hy
    cases hy
    exact mono _ (hall e he hb)
  · rw [getD_set_ne false hiy] at hl
    exact mono _ (h y oy hy hl e he hb)

theorem Cl.preds {listed : Array Bool} {j : Nat} (h : Cl ops listed) (hl : listed.getD j false = true) : ∀ x ∈ preds ops j, listed.getD x false = true := by
  intro x hx
  unfold Eng.preds at hx
  split at hx
  · cases hx
  · rename_i o ho
    obtain ⟨e, he, rfl⟩ := List.mem_map.1 hx
    rw [List.mem_filter] at he
    exact h j o ho hl e (by simpa using he.1) he.2

theorem Cl.sweep {listed : Array Bool} (h : Cl ops listed) : ∀ (n : Nat) (S : List Nat), (∀ x ∈ S, listed.getD x false = true) → ∀ x ∈ sweep ops n S, listed.getD x false = true
  | 0, _, hS => hS
  | n + 1, S, hS => by
    simp only [Eng.sweep]
    refine Cl.sweep h n _ ?_
    cases hm : memN S n with
    | false => exact hS
    | true =>
      intro x hx
      simp only [cond_true, List.mem_append] at hx
      exact hx.elim (h.preds (hS n (memN_iff.1 hm)) x) (hS x)

theorem late_of {i j : Nat} {oi : Oper} {listed : Array Bool} (hcl : Cl ops listed) (hi : ops[i]? = some oi) (hti : reads oi = true) (hir : i ∈ Region.ready .any ops listed) (hjr : j ∈ Region.ready .any ops listed) (hne : j ≠ i) : late ops j = true := by
  unfold late lateIn
  rw [List.any_eq_true]
  refine ⟨i, List.mem_range.2 (Array.getElem?_eq_some_iff.1 hi).1, ?_⟩
  simp only [readsI, hi, hti, Bool.and_true, Bool.and_eq_true, Bool.not_eq_true']
  refine ⟨?_, ?_⟩
  · cases h : Nat.beq i j with
    | false => rfl
    | true => exact absurd (beq_iff.1 h).symm hne
  · cases hp : memN (ances ops j) i with
    | false => rfl
    | true =>
      exfalso
      obtain ⟨_, oj, hoj, hall⟩ := mem_ready.1 hjr
      have h0 := (mem_ready.1 hir).1
      have hl : listed.getD i false = true := by
        refine hcl.sweep ops.size (preds ops j) (fun x hx => ?_) i (memN_iff.1 hp)
        unfold preds at hx
        simp only [hoj] at hx
        obtain ⟨e, he, rfl⟩ := List.mem_map.1 hx
        rw [List.mem_filter] at he
        exact hall e (by simpa using he.1) he.2
      rcases Nat.lt_or_ge i listed.size with h' | h'
      · simp [h'] at h0 hl; rw [h0] at hl; cases hl
      · rw [Array.getD_eq_getD_getElem?, Array.getElem?_eq_none h'] at hl; cases hl

theorem wpAnyT_first {i : Nat} {oi : Oper} {v : Value} (hi : ops[i]? = some oi) (hsel : ∀ (j : Nat) (o : Oper) cs b, ops[j]? = some o → o.op ≠ .select cs b)
    (hQ : ∀ c a w, Q (.panic c) (a.put oi.dst v) w → Q (.panic c) a w) :
    ∀ (fuel : Nat) (listed : Array Bool) (a : Act) (w : World),
      (∀ j oj, ops[j]? = some oj → j ≠ i → listed.getD j true = false → (∀ e ∈ oj.after, Region.binds .any e = true → e.on ≠ i) → oi.apart ops oj = true) →
      Cl ops listed → i ∈ Region.ready .any ops listed → YieldsIf P ops (fun w => reads oi = true → S w) oi v a → (reads oi = true → S w) →
      wpAnyT P ops Q S fuel (listed.setIfInBounds i true) (a.put oi.dst v) w → wpAnyT P ops Q S (fuel + 1) listed a w := by
  intro fuel
  induction fuel with
  | zero =>
    intro listed a w _ _ hr hy hS H
    refine ⟨fun h => (by rw [h] at hr; cases hr), fun j hj => ?_⟩
    by_cases hji : j = i
    · subst hji; exact yieldsR hi hy hS ⟨fun _ h => h, H⟩
    · have := ready_mono hj hji
      rw [H.1] at this
      cases this
  | succ fuel ih =>
    intro listed a w hfree hcl hr hy hS H
    refine ⟨fun h => (by rw [h] at hr; cases hr), fun j hj => ?_⟩
    by_cases hji : j = i
    · subst hji; exact yieldsR hi hy hS ⟨fun _ h => h, H⟩
    · have h1 := H.2 j (ready_mono hj hji)
      obtain ⟨hjun, oj, hoj, hall⟩ := mem_ready.1 hj
      have hnot : ∀ e ∈ oj.after, Region.binds .any e = true → e.on ≠ i := fun e he hb heq => by
        have h1 := hall e he hb
        have h0 := (mem_ready.1 hr).1
        rw [heq] at h1
        rcases Nat.lt_or_ge i listed.size with h' | h'
        · simp [h'] at h0 h1; rw [h0] at h1; cases h1
        · simp [Array.getElem?_eq_none h'] at h1
      have h2 := wpOpR_put hoj (hfree j oj hoj hji hjun hnot) (fun cs b => hsel i oi cs b hi) (fun cs b => hsel j oj cs b hoj) hQ hy h1
      have hfree' : ∀ k ok, ops[k]? = some ok → k ≠ i → (listed.setIfInBounds j true).getD k true = false →
          (∀ e ∈ ok.after, Region.binds .any e = true → e.on ≠ i) → oi.apart ops ok = true := fun k ok hk hki hun hno => by
        refine hfree k ok hk hki ?_ hno
        by_cases hjk : j = k
        · subst hjk; exact hjun
        · rw [getD_set_ne true hjk] at hun; exact hun
      refine wpOpR_mono (fun a' w' h3 => ⟨h3.2.1, ih (listed.setIfInBounds j true) a' w' hfree' (hcl.set hj) (ready_mono hr (Ne.symm hji)) h3.1 (fun hrd => h3.2.1 (late_of hcl hi hrd hr hj hji) (hS hrd)) ?_⟩) h2
      rw [Array.setIfInBounds_comm _ _ hji]
      exact h3.2.2

end

/-! ### what a reading operation yields, in every world that shows the same -/
section
variable {E : Env} {C : Ctx} {a : Act} {wa : World} {st : St} {u u0 : UW} {θ : Nat → Nat} {fz : List Nat} {o : Oper} {K : St → UW → Prop}

/-- The worlds that show what u0 shows, the private boxes as they are. -/
structure Shows (u0 : UW) (st : St) (θ : Nat → Nat) (w : World) : Prop where
  sees : Sees u0.toWorld w
  boxes : ∀ k m, (k, m) ∈ st.D → ∃ c T, w.heap[θ k]? = some (.cells c T (0, 0)) ∧ c.size = m ∧ ∀ j, j < m → R θ (st.σ (gx k j)) (c.getD j undef)

def Tk (E : Env) (a : Act) (o : Oper) (st : St) (u0 : UW) (θ : Nat → Nat) (K : St → UW → Prop) : Prop :=
  ∃ v r, R θ v r ∧ (∀ k o, v = fake k o → ∃ m, (k, m) ∈ st.D) ∧ K (fin o st v) u0 ∧ ∀ w, (reads o = true → Shows u0 st θ w) → (execOp a.eval o).run E.P w = .ok (.value r) w

theorem tkP {v : Value} (hp : plain v = true) (hK : K (fin o st v) u0) (hr : ∀ w, (reads o = true → Shows u0 st θ w) → (execOp a.eval o).run E.P w = .ok (.value v) w) : Tk E a o st u0 θ K :=
  ⟨v, v, R_refl hp, fun k o e => absurd e (not_fake hp k o), hK, hr⟩

theorem tk_fake {k off : Nat} (hm : ∃ m, (k, m) ∈ st.D) (hK : K (fin o st (fake k off)) u0) (hr : ∀ w, (reads o = true → Shows u0 st θ w) → (execOp a.eval o).run E.P w = .ok (.value (.pointer (some ⟨θ k, off, none⟩))) w) : Tk E a o st u0 θ K :=
  ⟨fake k off, _, rfl, fun k' o' e => (by simp only [Value.complex.injEq, true_and] at e; rw [← e.1]; exact hm), hK, hr⟩

theorem t_slice {t : TypeId} {x : Operand} {lo hi mx : Option Operand}
    (h : match E.P.underlying t, ev st.σ x with
      | some (.slice e), .slice b len cap => (match optInt (ev st.σ) lo 0, optInt (ev st.σ) hi len, optInt (ev st.σ) mx cap with
        | some l, some h, some m => (bif (mx.isSome && hi.isNone) || (E.P.info? e).isNone then False else (m.toNat = l.toNat ∨ noSpot b) ∧ 0 ≤ l ∧ l ≤ h ∧ h ≤ m ∧ m ≤ cap ∧ K (fin o st (.slice (slA b l.toNat m.toNat (E.P.cellsOf e)) (h.toNat - l.toNat) (m.toNat - l.toNat))) u0)
        | _, _, _ => False)
      | some .string, .string s => (match mx with
        | some _ => False
        | none => match optInt (ev st.σ) lo 0, optInt (ev st.σ) hi s.size with
          | some l, some h => 0 ≤ l ∧ l ≤ h ∧ h ≤ s.size ∧ K (fin o st (.string (s.extract l.toNat h.toNat))) u0
          | _, _ => False)
      | _, _ => False) (ho : o.op = .slice t x lo hi mx) (hok : okOper C.n o = true) (hI : Inv C a wa st u θ) : Tk E a o st u0 θ K := by
  have hx : okOp C.n x = true := opd hok (by simp [ho, Op.operands])
  have hev : ∀ y k i, (lo = some y ∨ hi = some y ∨ mx = some y) → ev st.σ y = .int k i → a.eval y = .int k i := by
    intro y k i hy he
    refine ev_val hI (opd hok ?_) he rfl
    rcases hy with rfl | rfl | rfl <;> simp [ho, Op.operands]
  split at h
  · rename_i e b len cap hu he
    split at h
    · rename_i l h' m hl hh hm
      cases hbad' : (mx.isSome && hi.isNone) || (E.P.info? e).isNone with
      | true => simp only [hbad', cond_true] at h
      | false =>
        simp only [hbad', cond_false] at h
        simp only [Bool.or_eq_false_iff] at hbad'
        obtain ⟨hbad, hie⟩ := hbad'
        obtain ⟨i, hi'⟩ : ∃ i, E.P.info? e = some i := by cases hq : E.P.info? e <;> simp_all
        obtain ⟨hns, h0, h1, h2, h3, hK⟩ := h
        refine tkP rfl hK fun w _ => ?_
        simp only [execOp, ho, ev_val hI hx he rfl, Sem.run_bind, Instr.sliceAt, run_under hu, Result.andThen_ok, Instr.slice, run_bounds hev hl hh hm hbad h0 h1 h2 h3, run_size hi', Sem.run_pure]
        congr 3
        unfold slA
        split
        · rfl
        · rename_i hml
          cases b with
          | none => rfl
          | some b =>
            simp only [Option.map_some, Option.some.injEq]
            unfold Addr.add
            split
            · rename_i h0'
              obtain ⟨bb, bo, bs⟩ := b
              have := (hns.resolve_left hml) _ rfl
              simp only at this
              subst this
              simp [h0']
            · rfl
    · exact h.elim
  · rename_i s hu he
    cases mx with
    | some _ => exact h.elim
    | none =>
      simp only at h
      split at h
      · rename_i l h' hl hh
        obtain ⟨h0, h1, h2, hK⟩ := h
        refine tkP rfl hK fun w _ => ?_
        have hb := run_bounds (P := E.P) (w := w) (isS := false) (len := s.size) (cap := s.size) (mx := none) (m := s.size) (fun y k i hy => hev y k i (by rcases hy with h | h | h; exact .inl h; exact .inr (.inl h); cases h)) hl hh rfl (by simp) h0 h1 h2 (by omega)
        simp only [execOp, ho, ev_val hI hx he rfl, Sem.run_bind, Instr.sliceAt, run_under hu, Result.andThen_ok, Instr.slice]
        simp only [Option.map_none] at hb
        simp only [Option.map_none, Option.isSome_none, Bool.false_eq_true, if_false, Sem.run_bind, hb, Result.andThen_ok, Sem.run_pure]
      · exact h.elim
  · exact h.elim


theorem t_fld {t : TypeId} {x : Operand} {f : Nat}
    (h : match ev st.σ x with
      | .agg cs => (match fldV E.P t f cs.toList with
        | some v => bif plain v then K (fin o st v) u0 else False
        | none => False)
      | _ => False) (ho : o.op = .field t x f) (hok : okOper C.n o = true) (hI : Inv C a wa st u θ) : Tk E a o st u0 θ K := by
  have hx : okOp C.n x = true := opd hok (by simp [ho, Op.operands])
  split at h
  · rename_i cs he
    cases hv : fldV E.P t f cs.toList with
    | none => simp only [hv] at h
    | some v =>
      simp only [hv] at h
      obtain ⟨hpv, h⟩ := bif_elim h
      refine tkP hpv h fun w _ => ?_
      unfold fldV at hv
      cases hu : E.P.underlying t with
      | none => simp [hu] at hv
      | some D =>
        cases D <;> simp only [hu] at hv <;> try (cases hv; done)
        rename_i fs
        cases hf : fs[f]? with
        | none => simp [hf] at hv
        | some y =>
          simp only [hf, Bool.cond_eq_ite, Bool.and_eq_true, Nat.ble_eq] at hv
          split at hv
          · rename_i hc
            obtain ⟨hi, hle⟩ := hc
            obtain ⟨d, hud⟩ := Option.isSome_iff_exists.1 hi
            simp only [execOp, ho, ev_val hI hx he rfl, Instr.field, Sem.run_bind, run_under hu, Result.andThen_ok, hf, asAgg, Sem.run_pure]
            split at hv
            · rename_i hag
              simp only [Option.some.injEq] at hv
              rw [run_part_agg hud hag, ← hv]
              simp only [Result.andThen_ok]
              congr 3
              apply Array.toList_inj.1
              rw [Array.toList_extract, List.extract_eq_take_drop]
              simp
            · rename_i hag
              simp only [Bool.not_eq_true] at hag
              rw [run_part_one hud hag (v := v) (by simpa using hv)]
              rfl
          · cases hv
  · exact h.elim


theorem t_bi {b : Builtin} {args : Array Operand} {ts : Array TypeId} (ht : takeable o = true) (h : W1b E o st u0 b args.toList ts.toList K) (ho : o.op = .call ⟨.builtin b, args, ts⟩) (hok : okOper C.n o = true) (hI : Inv C a wa st u θ) : Tk E a o st u0 θ K := by
  have ka : ∀ x ∈ args.toList, okOp C.n x = true := fun x hx => opd hok (by simp [ho, Op.operands, Call.operands]; simpa using hx)
  obtain ⟨args⟩ := args
  obtain ⟨ts⟩ := ts
  simp only at h ka
  unfold W1b at h
  split at h
  · rename_i x t
    have kx := ka x (by simp)
    split at h
    · rename_i n c hu he
      refine tkP rfl h fun w _ => ?_
      refine run_builtin (s := Builtin.len_ #[t] o.type #[a.eval x]) ho (fun _ => by simp [builtin]) ?_
      simp [Builtin.len_, run_under hu, ev_val hI kx he rfl, goInt]
    · rename_i s hu he
      refine tkP rfl h fun w _ => ?_
      refine run_builtin (s := Builtin.len_ #[t] o.type #[a.eval x]) ho (fun _ => by simp [builtin]) ?_
      simp [Builtin.len_, run_under hu, ev_val hI kx he rfl, goInt]
    · rename_i n e hu
      obtain ⟨_, h⟩ := bif_elim h
      refine tkP rfl h fun w _ => ?_
      refine run_builtin (s := Builtin.len_ #[t] o.type #[a.eval x]) ho (fun _ => by simp [builtin]) ?_
      simp [Builtin.len_, run_under hu, goInt]
    · exact h.elim
  · rename_i x y t t'
    simp [takeable, ho] at ht
  · split at h
    · rename_i k i is hi
      refine tkP rfl h fun w _ => ?_
      obtain ⟨he, _⟩ := ints_eq hI ka hi
      refine run_builtin (s := (is.map (Value.int k)).foldlM Builtin.min2 (.int k i)) ho (fun _ => ?_) (run_min is i)
      simp only [builtin, Builtin.min_, List.map_toArray, he, List.map_cons]
    · exact h.elim
  · split at h
    · rename_i k i is hi
      refine tkP rfl h fun w _ => ?_
      obtain ⟨he, _⟩ := ints_eq hI ka hi
      refine run_builtin (s := (is.map (Value.int k)).foldlM Builtin.max2 (.int k i)) ho (fun _ => ?_) (run_max is i)
      simp only [builtin, Builtin.max_, List.map_toArray, he, List.map_cons]
    · exact h.elim
  · exact h.elim


/-- Of W1 at an operation that only reads. -/
theorem W1_take (ht : takeable o = true) (hok : okOper C.n o = true) (hI : Inv C a wa st u θ) (h : W1 E fz o st u0 K) : Tk E a o st u0 θ K := by
  have op1 : ∀ {x : Operand}, x ∈ o.op.operands → okOp C.n x = true := fun hx => opd hok hx
  cases ho : o.op with
  | move x =>
    simp only [W1, ho] at h
    have hx := op1 (x := x) (by simp [ho, Op.operands])
    exact ⟨_, _, ev_R hI hx, fun k o' e => (ev_fk hI hx e).2, h, fun w _ => by simp [execOp, ho]⟩
  | assign x =>
    simp only [W1, ho] at h
    have hx := op1 (x := x) (by simp [ho, Op.operands])
    exact ⟨_, _, ev_R hI hx, fun k o' e => (ev_fk hI hx e).2, h, fun w _ => by simp [execOp, ho]⟩
  | pick c x y =>
    simp only [W1, ho] at h
    have hx := op1 (x := x) (by simp [ho, Op.operands])
    have hy := op1 (x := y) (by simp [ho, Op.operands])
    have hc := op1 (x := c) (by simp [ho, Op.operands])
    split at h
    · rename_i t hct
      have hec := ev_val hI hc hct rfl
      cases t with
      | true => exact ⟨_, _, ev_R hI hx, fun k o' e => (ev_fk hI hx e).2, h, fun w _ => by simp [execOp, ho, hec, asBool]⟩
      | false => exact ⟨_, _, ev_R hI hy, fun k o' e => (ev_fk hI hy e).2, h, fun w _ => by simp [execOp, ho, hec, asBool]⟩
    · exact h.elim
  | build t ps =>
    simp only [W1, ho] at h
    obtain ⟨hp, h⟩ := bif_elim h
    have hx : ∀ x ∈ ps.toList, okOp C.n x.2 = true := fun x hx => opd hok (by simp only [ho, Op.operands]; simp only [List.mem_toArray, List.mem_map]; exact ⟨x, hx, rfl⟩)
    cases hb : bld E.P t (ps.toList.map fun p => (p.1, ev st.σ p.2)) with
    | none => simp only [hb] at h
    | some vs =>
      simp only [hb] at h
      refine tkP rfl h fun w _ => ?_
      have e := pairs_eq hI hx hp
      simp only [execOp, ho, e, Sem.run_bind]
      rw [run_build (r := vs) (by simpa using hb)]
      rfl
  | load t x =>
    simp only [W1, ho] at h
    have hx := op1 (x := x) (by simp [ho, Op.operands])
    cases hk : kinds E.P t with
    | none => simp only [hk] at h
    | some ks =>
      simp only [hk] at h
      obtain ⟨hl1, ⟨d, hu⟩, hl2⟩ := kinds_spec hk
      split at h
      · rename_i k off he
        cases hb : boxSize st.D k with
        | none => simp only [hb] at h
        | some m =>
          simp only [hb] at h
          obtain ⟨hc, h⟩ := bif_elim h
          simp only [Bool.and_eq_true, Nat.ble_eq] at hc
          obtain ⟨h1, h2⟩ := hc
          have hp := all_plain h2
          have hev := (ev_fk hI hx he).1
          refine tkP (mkV_plain hp (hl2.imp id fun h => by rw [rdG_length]; exact h)) h fun w hw => ?_
          obtain ⟨c, T, b1, b2, b3⟩ := (hw (by simp [reads, ho])).boxes k m (boxSize_mem hb)
          have hlist := cells_drop_take b2 b3 ks.length off h1 hp
          simp only [execOp, ho, hev, Instr.loadAt, Instr.sureAddr, Sem.run_bind, Sem.run_pure, Result.andThen_ok]
          rw [run_loadVar hk b1 (by omega), hlist]
          rfl
      · obtain ⟨b, off, hv, h⟩ := withPtr_elim h
        obtain ⟨vs, hlen, hp, hrd, h⟩ := exL_elim h
        have hev := ev_val hI hx hv rfl
        by_cases hz : ks.length = 0
        · have hag : aggT E.P t = true := hl2.resolve_right (by omega)
          have hvs : vs = [] := List.eq_nil_of_length_eq_zero (by omega)
          subst hvs
          obtain ⟨i, hi⟩ := info_of_under hu
          refine tkP (by rw [hag]; rfl) h fun w _ => ?_
          simp only [execOp, ho, hev, Instr.loadAt, Instr.sureAddr, Sem.run_bind, Sem.run_pure, Result.andThen_ok, loadVar, run_isAgg hu, hag, if_true, run_size hi, ← hl1, hz]
          rfl
        · refine tkP (mkV_plain hp (hl2.imp id fun h => by omega)) h fun w hw => ?_
          obtain ⟨c, T, f, c1, c2, c3⟩ := rd_sees (hw (by simp [reads, ho])).sees hrd hz
          simp only [execOp, ho, hev, Instr.loadAt, Instr.sureAddr, Sem.run_bind, Sem.run_pure, Result.andThen_ok]
          rw [run_loadVar hk c1 c2, ← c3]
          rfl
  | nilCheck x =>
    simp only [W1, ho] at h
    have hx := op1 (x := x) (by simp [ho, Op.operands])
    split at h
    · rename_i k off he
      obtain ⟨hev, hm⟩ := ev_fk hI hx he
      exact tk_fake hm h fun w _ => by simp [execOp, ho, hev]
    · rename_i p he
      have hev := ev_val hI hx he rfl
      cases p with
      | none => exact h.elim
      | some p => exact tkP rfl h fun w _ => by simp [execOp, ho, hev]
    · rename_i f p q he
      have hev := ev_val hI hx he rfl
      cases f with
      | method n => exact h.elim
      | _ => exact tkP rfl h (fun w _ => by simp [execOp, ho, hev])
    · exact h.elim
  | binOp op t x y t' =>
    simp only [W1, ho] at h
    have hx := op1 (x := x) (by simp [ho, Op.operands])
    have hy := op1 (x := y) (by simp [ho, Op.operands])
    obtain ⟨px, py, v, hp, hK, hall⟩ := cBin_sound h x y
    refine tkP hp hK fun w _ => ?_
    simp only [execOp, ho]
    rw [ev_eq hI hx px, ev_eq hI hy py]
    rw [Sem.run_bind, hall w]
    rfl
  | unOp op t x =>
    simp only [W1, ho] at h
    have hx := op1 (x := x) (by simp [ho, Op.operands])
    split at h
    · rename_i b he
      exact tkP rfl h fun w _ => by simp [execOp, ho, ev_val hI hx he rfl, Op.unary]
    · rename_i k n he
      exact tkP rfl h fun w _ => by simp [execOp, ho, ev_val hI hx he rfl, Op.unary, Op.intArith]
    · exact h.elim
  | convert s d x =>
    simp only [W1, ho] at h
    have hx := op1 (x := x) (by simp [ho, Op.operands])
    obtain ⟨hp, h⟩ := bif_elim h
    cases hv : pv E.P (convert s d (ev st.σ x)) with
    | none => simp only [hv] at h
    | some v =>
      simp only [hv] at h
      obtain ⟨hpv, h⟩ := bif_elim h
      refine tkP hpv h fun w _ => ?_
      simp only [execOp, ho, ev_eq hI hx hp, Sem.run_bind, pv_run hv w]
      rfl
  | makeInterface t x =>
    simp only [W1, ho] at h
    have hx := op1 (x := x) (by simp [ho, Op.operands])
    obtain ⟨hp, h⟩ := bif_elim h
    cases hv : pv E.P (Instr.makeInterface t (ev st.σ x)) with
    | none => simp only [hv] at h
    | some v =>
      simp only [hv] at h
      obtain ⟨hpv, h⟩ := bif_elim h
      refine tkP hpv h fun w _ => ?_
      simp only [execOp, ho, ev_eq hI hx hp, Sem.run_bind, pv_run hv w]
      rfl
  | makeFunc fn first captured =>
    simp only [W1, ho] at h
    obtain ⟨hc, h⟩ := bif_elim h
    simp only [Bool.and_eq_true] at hc
    have h1 : ∀ x ∈ first.toList, okOp C.n x = true := fun x hx => opd hok (by simp [ho, Op.operands]; left; simpa using hx)
    have h2 : ∀ x ∈ captured.toList, okOp C.n x = true := fun x hx => opd hok (by simp [ho, Op.operands]; right; simpa using hx)
    refine tkP rfl h fun w _ => ?_
    simp only [execOp, ho, arr_evs hI h1 hc.1, arr_evs hI h2 hc.2, Instr.makeFunc]
    rfl
  | slice t x lo hi mx =>
    simp only [W1, ho] at h
    exact t_slice h ho hok hI
  | fieldAddr t x f =>
    simp only [W1, ho] at h
    have hx := op1 (x := x) (by simp [ho, Op.operands])
    cases hd : fOff E.P t f with
    | none => simp only [hd] at h
    | some d =>
      simp only [hd] at h
      split at h
      · rename_i k off he
        obtain ⟨hev, hm⟩ := ev_fk hI hx he
        exact tk_fake hm h fun w _ => by simp only [execOp, ho, hev, Sem.run_bind, run_fieldAt hd]; rfl
      · obtain ⟨b, off, hv, h⟩ := withPtr_elim h
        have hev := ev_val hI hx hv rfl
        exact tkP rfl h fun w _ => by simp only [execOp, ho, hev, Sem.run_bind, run_fieldAt hd]; rfl
  | field t x f => simp only [W1, ho] at h; exact t_fld h ho hok hI
  | indexAddr t x i =>
    simp only [W1, ho] at h
    have hx := op1 (x := x) (by simp [ho, Op.operands])
    have hi := op1 (x := i) (by simp [ho, Op.operands])
    split at h
    · rename_i e b len c k j hu he hei
      obtain ⟨hin, h⟩ := bif_elim h
      obtain ⟨ie, hie⟩ := Option.isSome_iff_exists.1 hin
      obtain ⟨bb, off, rfl, h1, h2, h⟩ := withSl_elim h
      refine tkP rfl h fun w _ => ?_
      simp only [execOp, ho, ev_val hI hx he rfl, ev_val hI hi hei rfl, Instr.indexAt, asIntOf, Sem.run_bind, Sem.run_pure, Result.andThen_ok, run_under hu]
      rw [if_pos ⟨h1, h2⟩]
      simp only [Sem.run_bind, run_size hie, Result.andThen_ok, Sem.run_pure, add_addr]
    · rename_i len e k off kk j hu he hei
      obtain ⟨hc, h⟩ := bif_elim h
      simp only [Bool.and_eq_true, decide_eq_true_eq] at hc
      obtain ⟨⟨h1, h2⟩, hin⟩ := hc
      obtain ⟨ie, hie⟩ := Option.isSome_iff_exists.1 hin
      obtain ⟨hev, hm⟩ := ev_fk hI hx he
      refine tk_fake hm h fun w _ => ?_
      simp only [execOp, ho, hev, ev_val hI hi hei rfl, Instr.indexAt, asIntOf, Sem.run_bind, Sem.run_pure, Result.andThen_ok, run_under hu, Instr.sureAddr]
      rw [if_pos ⟨h1, h2⟩]
      simp only [Sem.run_bind, run_size hie, Result.andThen_ok, Sem.run_pure, add_addr]
    · exact h.elim
  | index t x i =>
    simp only [W1, ho] at h
    have hx := op1 (x := x) (by simp [ho, Op.operands])
    have hi := op1 (x := i) (by simp [ho, Op.operands])
    split at h
    · rename_i s k j hu he hei
      obtain ⟨h1, c, h2, h⟩ := h
      refine tkP rfl h fun w _ => ?_
      simp only [execOp, ho, ev_val hI hx he rfl, ev_val hI hi hei rfl, Instr.index, asIntOf, Sem.run_bind, Sem.run_pure, Result.andThen_ok, run_under hu, if_pos h1, h2]
    · rename_i len e cs k j hu he hei
      obtain ⟨h1, h2, hin, v, hv, hpv, h⟩ := h
      obtain ⟨ie, hie⟩ := Option.isSome_iff_exists.1 hin
      refine tkP hpv h fun w _ => ?_
      simp only [execOp, ho, ev_val hI hx he rfl, ev_val hI hi hei rfl, Instr.index, asIntOf, Sem.run_bind, Sem.run_pure, Result.andThen_ok, run_under hu, if_pos (show (0 : Int) ≤ j ∧ j < len from ⟨h1, h2⟩), run_size hie]
      rw [run_elt hv]; rfl
    · exact h.elim
  | extract x i =>
    simp only [W1, ho] at h
    have hx := op1 (x := x) (by simp [ho, Op.operands])
    split at h
    · rename_i vs he
      cases hv : vs[i]? with
      | none => simp only [hv] at h
      | some v =>
        simp only [hv] at h
        obtain ⟨hpv, h⟩ := bif_elim h
        exact tkP hpv h fun w _ => by simp [execOp, ho, ev_val hI hx he rfl, Instr.extract, hv]
    · exact h.elim
  | call c =>
    simp only [W1, ho] at h
    obtain ⟨callee, args, ts⟩ := c
    cases callee with
    | builtin b => simp only at h; exact t_bi ht h ho hok hI
    | value f => simp [takeable, ho] at ht
    | invoke r m => simp [takeable, ho] at ht
  | _ => simp [takeable, ho] at ht


theorem findTake_spec {ops : Array Oper} {listed : Array Bool} {j : Nat} : ∀ l : List Nat, findTake ops listed l = some j → j ∈ l ∧ ∃ oj, ops[j]? = some oj ∧ takeable oj = true ∧ Region.free .any ops listed j = true := by
  intro l
  induction l with
  | nil => intro h; simp [findTake] at h
  | cons x l ih =>
    intro h
    simp only [findTake] at h
    cases hx : ops[x]? with
    | none =>
      simp only [hx, Bool.false_and, cond_false] at h
      obtain ⟨h1, h2⟩ := ih h; exact ⟨by simp [h1], h2⟩
    | some ox =>
      simp only [hx] at h
      cases hc : takeable ox && Region.free .any ops listed x with
      | true =>
        simp only [hc, cond_true, Option.some.injEq] at h
        subst h
        simp only [Bool.and_eq_true] at hc
        exact ⟨by simp, ox, hx, hc.1, hc.2⟩
      | false =>
        simp only [hc, cond_false] at h
        obtain ⟨h1, h2⟩ := ih h; exact ⟨by simp [h1], h2⟩

/-- What a plan's first step says. -/
inductive PS (ops : Array Oper) (listed : Array Bool) : Nat → Plan → Prop
  | nil (f : Nat) (h : Region.ready .any ops listed = []) : PS ops listed f .nil
  | tk (f j : Nat) (p : Plan) (oj : Oper) (ho : ops[j]? = some oj) (ht : takeable oj = true) (hf : Region.free .any ops listed j = true) (hr : j ∈ Region.ready .any ops listed) (hp : planF ops f (listed.setIfInBounds j true) = some p) : PS ops listed (f + 1) (.tk j p)
  | ef (f i : Nat) (p : Plan) (hr : Region.ready .any ops listed = [i]) (h1 : okAfter ops i p = true) (hp : planF ops f (listed.setIfInBounds i true) = some p) : PS ops listed (f + 1) (.ef i p)
  | ef2 (f i j : Nat) (p q : Plan) (hr : Region.ready .any ops listed = [i, j]) (h1 : okAfter ops i p = true) (h2 : okAfter ops j q = true) (hp : planF ops f (listed.setIfInBounds i true) = some p) (hq : planF ops f (listed.setIfInBounds j true) = some q) : PS ops listed (f + 1) (.ef2 i p j q)
  | ef3 (f i j k : Nat) (p q r : Plan) (hr : Region.ready .any ops listed = [i, j, k]) (h1 : okAfter ops i p = true) (h2 : okAfter ops j q = true) (h3 : okAfter ops k r = true) (hp : planF ops f (listed.setIfInBounds i true) = some p) (hq : planF ops f (listed.setIfInBounds j true) = some q) (hrr : planF ops f (listed.setIfInBounds k true) = some r) : PS ops listed (f + 1) (.ef3 i p j q k r)

theorem planF_spec : ∀ (f : Nat) (listed : Array Bool) (p : Plan) (ops : Array Oper), planF ops f listed = some p → PS ops listed f p
  | 0, listed, p, ops, h => by
    simp only [planF] at h
    cases hr : Region.ready .any ops listed with
    | nil => simp only [hr, Option.some.injEq] at h; subst h; exact .nil 0 hr
    | cons i rs => simp [hr] at h
  | f + 1, listed, p, ops, h => by
    simp only [planF] at h
    cases hr : Region.ready .any ops listed with
    | nil => simp only [hr, Option.some.injEq] at h; subst h; exact .nil _ hr
    | cons i rs =>
      simp only [hr] at h
      cases hf : findTake ops listed (i :: rs) with
      | some j =>
        simp only [hf] at h
        obtain ⟨hmem, oj, ho, htk, hfr⟩ := findTake_spec _ hf
        cases hp : planF ops f (listed.setIfInBounds j true) with
        | none => simp [hp] at h
        | some p' =>
          simp only [hp, Option.some.injEq] at h
          subst h
          exact .tk f j p' oj ho htk hfr (by rw [hr]; exact hmem) hp
      | none =>
        simp only [hf] at h
        match rs, hr, h with
        | [], hr, h =>
          cases hp : planF ops f (listed.setIfInBounds i true) with
          | none => simp [hp] at h
          | some p' =>
            simp only [hp] at h
            cases hc : okAfter ops i p' with
            | false => simp [hc] at h
            | true => simp only [hc, cond_true, Option.some.injEq] at h; subst h; exact .ef f i p' hr hc hp
        | [j], hr, h =>
          cases hp : planF ops f (listed.setIfInBounds i true) with
          | none => simp [hp] at h
          | some p' =>
            cases hq : planF ops f (listed.setIfInBounds j true) with
            | none => simp [hp, hq] at h
            | some q' =>
              simp only [hp, hq] at h
              cases hc : okAfter ops i p' && okAfter ops j q' with
              | false => simp [hc] at h
              | true =>
                simp only [hc, cond_true, Option.some.injEq] at h; subst h
                simp only [Bool.and_eq_true] at hc
                exact .ef2 f i j p' q' hr hc.1 hc.2 hp hq
        | [j, k], hr, h =>
          cases hp : planF ops f (listed.setIfInBounds i true) with
          | none => simp [hp] at h
          | some p' =>
            cases hq : planF ops f (listed.setIfInBounds j true) with
            | none => simp [hp, hq] at h
            | some q' =>
              cases hrr : planF ops f (listed.setIfInBounds k true) with
              | none => simp [hp, hq, hrr] at h
              | some r' =>
                simp only [hp, hq, hrr] at h
                cases hc : okAfter ops i p' && okAfter ops j q' && okAfter ops k r' with
                | false => simp [hc] at h
                | true =>
                  simp only [hc, cond_true, Option.some.injEq] at h; subst h
                  simp only [Bool.and_eq_true] at hc
                  exact .ef3 f i j k p' q' r' hr hc.1.1 hc.1.2 hc.2 hp hq hrr
        | _ :: _ :: _ :: _, _, h => simp at h

/-- The state through a region: as it was at its head, as far as private boxes go. -/
structure Syn (st0 : St) (θ0 : Nat → Nat) (st : St) (θ : Nat → Nat) : Prop where
  D : st.D = st0.D
  θ : ∀ k m, (k, m) ∈ st0.D → θ k = θ0 k
  gh : ∀ k m, (k, m) ∈ st0.D → ∀ j, j < m → st.σ (gx k j) = st0.σ (gx k j)

theorem R_same {θ θ' : Nat → Nat} {v r : Value} (hnf : ∀ k o, v ≠ fake k o) : R θ v r → R θ' v r := fun h => R_congr h fun k o e => absurd e (hnf k o)

theorem shows_iff {st0 st : St} {θ0 θ : Nat → Nat} (hs : Syn st0 θ0 st θ) (hg : ∀ k m, (k, m) ∈ st0.D → ∀ j, j < m → ∀ k' o, st0.σ (gx k j) ≠ fake k' o) (w : World) : Shows u0 st0 θ0 w ↔ Shows u0 st θ w := by
  constructor
  · rintro ⟨h1, h2⟩
    refine ⟨h1, fun k m hk => ?_⟩
    rw [hs.D] at hk
    obtain ⟨c, T, e1, e2, e3⟩ := h2 k m hk
    exact ⟨c, T, by rw [hs.θ k m hk]; exact e1, e2, fun j hj => by rw [hs.gh k m hk j hj]; exact R_same (hg k m hk j hj) (e3 j hj)⟩
  · rintro ⟨h1, h2⟩
    refine ⟨h1, fun k m hk => ?_⟩
    obtain ⟨c, T, e1, e2, e3⟩ := h2 k m (hs.D ▸ hk)
    exact ⟨c, T, by rw [← hs.θ k m hk]; exact e1, e2, fun j hj => R_same (hg k m hk j hj) (by rw [← hs.gh k m hk j hj]; exact e3 j hj)⟩

theorem Inv.shows (hI : Inv C a wa st u θ) (hs : Same u0 u) : Shows u0 st θ wa := by
  refine ⟨⟨hI.below.os.trans hs.os, hI.below.tape.trans hs.tape, hI.below.output.trans hs.output, Nat.le_trans hs.size hI.below.size, fun b hb => ?_⟩, fun k m hk => ?_⟩
  · rw [← hs.block b hb]
    exact hI.below.block b (Nat.lt_of_lt_of_le hb hs.size)
  · obtain ⟨_, c, T, h1, h2, h3, _⟩ := hI.boxes k m hk
    exact ⟨c, T, h1, h2, h3⟩

def QN (Q : Act → World → Prop) : Exit → Act → World → Prop
  | .normal, a, w => Q a w
  | _, _, _ => False

theorem wd_guard {ops : Array Oper} {oj : Oper} {act skip : St → Prop} {G : Prop} (hok : ∀ o ∈ ops.toList, okOper C.n o = true) (hI : Inv C a wa st u θ) (h : guarded ops oj st act skip)
    (yes : Region.wanted oj (yielded ops a.tmps) = true → act st → G) (no : Region.wanted oj (yielded ops a.tmps) = false → skip st → G) : G := by
  unfold guarded at h
  cases hg : oj.guard with
  | none =>
    simp only [hg] at h
    exact yes (by simp [Region.wanted, hg]) h
  | some jb =>
    obtain ⟨x, b⟩ := jb
    simp only [hg] at h
    cases hgs : gslot ops x with
    | none => simp only [hgs] at h
    | some g =>
      simp only [hgs] at h
      have hgn : g < C.n := by
        unfold gslot at hgs
        cases hj : ops[x]? with
        | none => simp [hj] at hgs
        | some ox =>
          simp only [hj, Option.bind_some] at hgs
          exact dst_lt (hok ox (by have : ops.toList[x]? = some ox := by simpa using hj
                                   exact List.mem_of_getElem? this)) g hgs
      have hyl : yielded ops a.tmps x = match a.tmps.getD g undef with | .bool x => some x | _ => none := by
        unfold yielded
        unfold gslot at hgs
        rw [hgs, Option.bind_some, getD_some hI.size hgn]
        cases a.tmps.getD g undef <;> rfl
      have hslot := hI.slots g hgn
      split at h
      · rename_i c hc
        rw [hc, R_plain rfl] at hslot
        rw [hslot] at hyl
        have hw : Region.wanted oj (yielded ops a.tmps) = (c == b) := by
          simp only [Region.wanted, hg, hyl]
          cases c <;> cases b <;> rfl
        cases c with
        | true =>
          simp only [CIf] at h
          rw [upd_self hc] at h
          cases b with
          | true => exact yes hw h
          | false => exact no hw h
        | false =>
          simp only [CIf] at h
          rw [upd_self hc] at h
          cases b with
          | true => exact no hw h
          | false => exact yes hw h
      · rename_i vs hc
        rw [hc, R_plain rfl] at hslot
        rw [hslot] at hyl
        exact no (by simp [Region.wanted, hg, hyl]) h
      · exact h.elim

/-- The state goes on, or nobody reads any more. -/
def Sy (ops : Array Oper) (u0 : UW) (stH : St) (θ0 : Nat → Nat) (p : Plan) (st : St) (u : UW) (θ : Nat → Nat) : Prop := (Same u0 u ∧ Syn stH θ0 st θ) ∨ (anyTake ops p = false ∧ anyLate ops p = false)

theorem Syn.fin {stH : St} {θ0 : Nat → Nat} {oj : Oper} (hsyn : Syn stH θ0 st θ) (hoko : okOper C.n oj = true) (hI : Inv C a wa st u θ) (v : Value) : Syn stH θ0 (fin oj st v) θ := by
  refine ⟨hsyn.D, hsyn.θ, fun k m hk j hj => ?_⟩
  rw [← hsyn.gh k m hk j hj]
  simp only [Go.Eng.fin]
  cases hd : oj.dst with
  | none => rfl
  | some d =>
    simp only [put]
    have h1 := dst_lt hoko d hd
    rw [upd_ne _ _ (show gx k j ≠ d from fun e => absurd (Nat.lt_of_lt_of_le h1 hI.n_le) (Nat.not_lt.2 (e ▸ gx_ge k j)))]

theorem belowNext {a b c : World} (h : Below a.heap.size a b) (k : Below b.heap.size b c) : Below a.heap.size a c :=
  ⟨k.os.trans h.os, k.tape.trans h.tape, k.output.trans h.output, Nat.le_trans h.size k.size, fun i hi => (k.block i (Nat.lt_of_lt_of_le hi h.size)).trans (h.block i hi)⟩

theorem W1_new {fz fz' : List Nat} {o : Oper} {st : St} {u : UW} {K : St → UW → Prop} (hn : isNew o = true) (hp : privOp E.priv o = false) (h : W1 E fz o st u K) : W1 E fz' o st u fun st' u' => Below u.heap.size u.toWorld u'.toWorld ∧ K st' u' := by
  unfold isNew at hn
  unfold privOp at hp
  unfold W1 at h ⊢
  split at hn
  · rename_i t ho
    simp only [ho] at h hp ⊢
    cases hz : (E.P.info? t).bind (·.zero) with
    | none => rw [hz] at h; exact h.elim
    | some z =>
      rw [hz] at h
      simp only at h ⊢
      cases hd : o.dst with
      | none => rw [hd] at h; exact h.elim
      | some k =>
        rw [hd] at h hp
        simp only at h hp ⊢
        rw [hp] at h ⊢
        exact fun b w' hb => ⟨hb.below, h b w' hb⟩
  · rename_i t x ho
    simp only [ho] at h hp ⊢
    obtain ⟨h1, h⟩ := bif_elim h
    rw [h1]
    simp only [cond_true]
    cases hd : o.dst with
    | none => rw [hd] at h; exact h.elim
    | some k =>
      rw [hd] at h hp
      simp only at h hp ⊢
      rw [hp] at h ⊢
      exact fun b w' hb => ⟨hb.below, h b w' hb⟩
  · rename_i t len ps ho
    simp only [ho] at h ⊢
    obtain ⟨h1, h⟩ := bif_elim h
    rw [h1]
    simp only [cond_true]
    cases he : elemT E.P t with
    | none => rw [he] at h; exact h.elim
    | some e =>
      rw [he] at h
      simp only at h ⊢
      cases hb : bldL (E.P.cellsOf e) 0 (ps.toList.map fun p => (p.1, ev st.σ p.2)) with
      | none => rw [hb] at h; exact h.elim
      | some vs =>
        rw [hb] at h
        simp only at h ⊢
        obtain ⟨h2, h⟩ := bif_elim h
        rw [h2]
        exact fun b w' hb => ⟨hb.below, h b w' hb⟩
  · cases hn

theorem new_run {fz : List Nat} {o : Oper} {K : St → UW → Prop} (hn : isNew o = true) (hok : okOper C.n o = true) (hI : Inv C a wa st u θ) (h : W1 E fz o st u K) : ∃ v ob, (execOp a.eval o).run E.P wa = .ok (.value v) (wa.alloc ob) := by
  unfold isNew at hn
  unfold W1 at h
  split at hn
  · rename_i t ho
    simp only [ho] at h
    cases hz : (E.P.info? t).bind (·.zero) with
    | none => rw [hz] at h; exact h.elim
    | some z =>
      refine ⟨.pointer (some ⟨wa.heap.size, 0, none⟩), .cells z.cells t (0, 0), ?_⟩
      simp only [execOp, ho, Sem.run_bind, run_alloc hz, Result.andThen_ok]; rfl
  · rename_i t x ho
    simp only [ho] at h
    obtain ⟨h1, h⟩ := bif_elim h
    have hx : okOp C.n x = true := opd hok (by simp [ho, Op.operands])
    refine ⟨.pointer (some ⟨wa.heap.size, 0, none⟩), .cells (ev st.σ x).cells t (0, 0), ?_⟩
    simp only [execOp, ho, ev_val hI hx rfl h1, Sem.run_bind, run_box, Result.andThen_ok]; rfl
  · rename_i t len ps ho
    simp only [ho] at h
    exact run_bls ho hok hI h
  · cases hn

theorem Shows.alloc {stH : St} {θ0 : Nat → Nat} {w : World} (h : Shows u0 stH θ0 w) (ob : Obj) : Shows u0 stH θ0 (w.alloc ob) := by
  have hk : ∀ (b : Nat) (x : Obj), w.heap[b]? = some x → (w.alloc ob).heap[b]? = some x := fun b x hx => by
    have hlt := (Array.getElem?_eq_some_iff.1 hx).1
    simp only [World.alloc]
    rw [Array.getElem?_push, if_neg (by omega)]
    exact hx
  refine ⟨⟨h.sees.os, h.sees.tape, h.sees.output, ?_, fun b hb => ?_⟩, fun k m hm => ?_⟩
  · have := h.sees.size
    simp only [World.alloc, Array.size_push]; omega
  · rcases h.sees.block b hb with e | e
    · left
      have hlt : b < w.heap.size := Nat.lt_of_lt_of_le hb h.sees.size
      rw [e, hk b _ (Array.getElem?_eq_getElem hlt), Array.getElem?_eq_getElem hlt]
    · exact .inr e
  · obtain ⟨c, T, h1, h2, h3⟩ := h.boxes k m hm
    exact ⟨c, T, hk _ _ h1, h2, h3⟩

theorem stepE_sound {ws : List Nat} {ops : Array Oper} {stH st0 : St} {θ0 : Nat → Nat} {i : Nat} {p : Plan} {K : St → UW → Prop} {N : Act → World → Prop} {QQ : Act → World → Prop} (hok : ∀ o ∈ ops.toList, okOper C.n o = true) (hws : ∀ o ∈ ops.toList, ∀ t, o.dst = some t → t ∈ ws)
    (hgh : ∀ k m, (k, m) ∈ stH.D → ∀ j, j < m → ∀ k' o, stH.σ (gx k j) ≠ fake k' o) (hI : Inv C a wa st u θ) (hP : Pres C.n fz ws st0 st) (hS : (Same u0 u ∧ Syn stH θ0 st θ) ∨ (anyTake ops p = false ∧ anyLate ops p = false ∧ hard ops i = false)) (hlt : okAfter ops i p = true)
    (hN : ∀ st' u' a' w' θ', Inv C a' w' st' u' θ' → Pres C.n fz ws st0 st' → Sy ops u0 stH θ0 p st' u' θ' → K st' u' → N a' w')
    (h : stepE E fz ops u0 i st u K) : wpOpR E.P ops (QN QQ) i (fun a' w' => (late ops i = true → Shows u0 stH θ0 wa → Shows u0 stH θ0 w') ∧ N a' w') a wa := by
  unfold stepE at h
  cases hoj : ops[i]? with
  | none => simp only [hoj] at h
  | some oj =>
    simp only [hoj] at h
    cases hpv : privOp E.priv oj with
    | true => simp only [hpv, cond_true] at h
    | false =>
      simp only [hpv, cond_false] at h
      have hmem : oj ∈ ops.toList := by have : ops.toList[i]? = some oj := by simpa using hoj
                                        exact List.mem_of_getElem? this
      have hoko := hok oj hmem
      have presTo : ∀ {s s' : St}, Pres C.n fz ws st0 s → Pres C.n fz oj.dst.toList s s' → Pres C.n fz ws st0 s' := by
        intro s s' h1 h2
        refine (h1.trans h2).mono (fun _ h => h) fun x hx => ?_
        rw [List.mem_append] at hx
        rcases hx with hx | hx
        · exact hx
        · cases hdst : oj.dst with
          | none => simp [hdst] at hx
          | some d => simp only [hdst, Option.toList, List.mem_singleton] at hx; exact hws oj hmem x (by rw [hdst, hx])
      unfold okAfter at hlt
      unfold wpOpR
      simp only [hoj]
      refine wd_guard (G := if Region.wanted oj (yielded ops a.tmps) = true then _ else _) hok hI h (fun hw h1 => ?_) (fun hw h1 => ?_)
      · rw [if_pos hw]
        cases hlate : hard ops i with
        | true =>
          simp only [hlate, cond_true] at h1
          refine upon_mono (fun a' w' hp => ?_) (W1_sound (Q := QN _) hoko hI h1)
          obtain ⟨st', u', θ', hI', hP', hθ, hDD, hsm, hW⟩ := hp
          have hP'' : Pres C.n fz oj.dst.toList st st' := hP'.mono (fun _ h => List.mem_append_left _ h) (fun _ h => h)
          have hDeq := hDD hpv
          rcases hS with ⟨_, hsyn⟩ | ⟨_, _, hno⟩
          · have hsyn' : Syn stH θ0 st' θ' := by
              refine ⟨hDeq.trans hsyn.D, fun k m hk => ?_, fun k m hk j hj => ?_⟩
              · rw [hθ k m (hsyn.D ▸ hk)]; exact hsyn.θ k m hk
              · rw [hP'.fz k (List.mem_append_right _ (List.mem_map.2 ⟨_, hsyn.D ▸ hk, rfl⟩)) m (hsyn.D ▸ hk) j hj]
                exact hsyn.gh k m hk j hj
            exact ⟨fun _ _ => (shows_iff hsyn' hgh w').2 (hI'.shows hsm), hN st' u' a' w' θ' hI' (presTo hP hP'') (.inl ⟨hsm, hsyn'⟩) hW⟩
          · rw [hlate] at hno; cases hno
        | false =>
          simp only [hlate, cond_false] at h1
          cases hnew : newI ops i with
          | true =>
            have hnw : isNew oj = true := by unfold newI at hnew; rw [hoj] at hnew; exact hnew
            obtain ⟨v, ob, hrun⟩ := new_run hnw hoko hI h1
            have hsd := W1_sound (Q := QN QQ) (fz := fz ++ st.D.map (·.1)) hoko hI (W1_new hnw hpv h1)
            unfold Snd at hsd
            rw [hrun] at hsd ⊢
            simp only [Oper.uponIn] at hsd ⊢
            obtain ⟨st', u', θ', hI', hP', hθ, hDD, hbl, hW⟩ := hsd
            have hP'' : Pres C.n fz oj.dst.toList st st' := hP'.mono (fun _ h => List.mem_append_left _ h) (fun _ h => h)
            have hDeq := hDD hpv
            refine ⟨fun _ hs => hs.alloc ob, hN st' u' _ _ θ' hI' (presTo hP hP'') ?_ hW⟩
            rcases hS with ⟨hsame, hsyn⟩ | ⟨n1, n2, _⟩
            · refine .inl ⟨belowNext hsame hbl, hDeq.trans hsyn.D, fun k m hk => ?_, fun k m hk j hj => ?_⟩
              · rw [hθ k m (hsyn.D ▸ hk)]; exact hsyn.θ k m hk
              · rw [hP'.fz k (List.mem_append_right _ (List.mem_map.2 ⟨_, hsyn.D ▸ hk, rfl⟩)) m (hsyn.D ▸ hk) j hj]
                exact hsyn.gh k m hk j hj
            · exact .inr ⟨n1, n2⟩
          | false =>
          simp only [hlate, hnew, Bool.false_or, Bool.and_eq_true, Bool.not_eq_true'] at hlt
          refine upon_mono (fun a' w' hp => ?_) (W1_sound (Q := QN _) hoko hI h1)
          obtain ⟨st', u', θ', hI', hP', hθ, hDD, hW⟩ := hp
          exact ⟨fun hh _ => (by simp [hard, hnew, hh] at hlate), hN st' u' a' w' θ' hI' (presTo hP hP') (.inr hlt) hW⟩
      · rw [if_neg (by simp [hw])]
        have hfin := hI.finP oj.dst (dst_lt hoko) (v := undef) rfl
        have hpf := presTo hP (Pres.fin st oj.dst (dst_lt hoko) hI.n_le undef)
        rcases hS with ⟨hsame, hsyn⟩ | ⟨hno1, hno2, hno3⟩
        · exact ⟨fun _ _ => (shows_iff hsyn hgh wa).2 (hI.shows hsame), hN _ u _ wa θ hfin hpf (.inl ⟨hsame, hsyn.fin hoko hI undef⟩) h1⟩
        · exact ⟨fun _ hs => hs, hN _ u _ wa θ hfin hpf (.inr ⟨hno1, hno2⟩) h1⟩

theorem Wd_sound {ws : List Nat} {ops : Array Oper} {Q : Exit → St → UW → Prop} {st0 stH : St} {θ0 : Nat → Nat} (hok : ∀ o ∈ ops.toList, okOper C.n o = true) (hws : ∀ o ∈ ops.toList, ∀ t, o.dst = some t → t ∈ ws)
    (hsel : Region.noSelect ops = true) (hgh : ∀ k m, (k, m) ∈ stH.D → ∀ j, j < m → ∀ k' o, stH.σ (gx k j) ≠ fake k' o) :
    ∀ (f : Nat) (p : Plan) (listed : Array Bool) (st : St) (u : UW) (a : Act) (wa : World) (θ : Nat → Nat), Cl ops listed → planF ops f listed = some p → Inv C a wa st u θ → Pres C.n fz ws st0 st →
      Sy ops u0 stH θ0 p st u θ → Wd E fz ops u0 (Q .normal) p st u →
      wpAnyT E.P ops (QN fun a' w' => ∃ st' u' θ', Inv C a' w' st' u' θ' ∧ Pres C.n fz ws st0 st' ∧ Q .normal st' u') (Shows u0 stH θ0) f listed a wa := by
  intro f
  induction f with
  | zero =>
    intro p listed st u a wa θ hcl hp hI hP hS h
    cases planF_spec 0 listed p ops hp with
    | nil _ hr => exact ⟨hr, st, u, θ, hI, hP, h⟩
  | succ f ih =>
    intro p listed st u a wa θ hcl hp hI hP hS h
    cases planF_spec (f + 1) listed p ops hp with
    | nil _ hr =>
      refine ⟨fun _ => ⟨st, u, θ, hI, hP, h⟩, ?_⟩
      rw [hr]; intro i hi; cases hi
    | tk _ j p' oj hoj htk hfree hrd hp' =>
      have hmem : oj ∈ ops.toList := by have : ops.toList[j]? = some oj := by simpa using hoj
                                        exact List.mem_of_getElem? this
      have hoko := hok oj hmem
      have presTo : ∀ (v : Value), Pres C.n fz ws st0 (fin oj st v) := by
        intro v
        refine (hP.trans (Pres.fin st oj.dst (dst_lt hoko) hI.n_le v)).mono (fun _ h => h) fun x hx => ?_
        rw [List.mem_append] at hx
        rcases hx with hx | hx
        · exact hx
        · cases hdst : oj.dst with
          | none => simp [hdst] at hx
          | some d => simp only [hdst, Option.toList, List.mem_singleton] at hx; exact hws oj hmem x (by rw [hdst, hx])
      have hS1 : reads oj = true → ∀ w, Shows u0 stH θ0 w ↔ Shows u0 st θ w := fun hrd => by
        rcases hS with ⟨_, hsyn⟩ | hn
        · exact shows_iff hsyn hgh
        · simp [anyTake, readsI, hoj, hrd] at hn
      have hS2 : reads oj = true → Shows u0 stH θ0 wa := fun hrd => by
        rcases hS with ⟨hsame, hsyn⟩ | hn
        · exact (shows_iff hsyn hgh wa).2 (hI.shows hsame)
        · simp [anyTake, readsI, hoj, hrd] at hn
      have hS3 : ∀ v, Sy ops u0 stH θ0 p' (fin oj st v) u θ := fun v => by
        rcases hS with ⟨hsame, hsyn⟩ | hn
        · exact .inl ⟨hsame, hsyn.fin hoko hI v⟩
        · simp only [anyTake, anyLate, Bool.or_eq_false_iff] at hn; exact .inr ⟨hn.1.2, hn.2⟩
      simp only [Wd, stepT, hoj] at h
      refine wd_guard hok hI h (fun hw h1 => ?_) (fun hw h1 => ?_)
      · obtain ⟨v, r, hR, hfk, hK, hrun⟩ := W1_take htk hoko hI h1
        refine wpAnyT_first hoj (Region.noSelect_spec hsel) (fun c a w hq => hq.elim) f listed a wa (Region.free_spec hoj hfree) hcl hrd (v := r) (.inl ⟨hw, fun w hw' => hrun w fun hr' => (hS1 hr' w).1 (hw' hr')⟩) hS2 ?_
        exact ih p' _ _ u _ wa θ (hcl.set hrd) hp' (hI.fin oj.dst (dst_lt hoko) hR hfk) (presTo v) (hS3 v) hK
      · refine wpAnyT_first hoj (Region.noSelect_spec hsel) (fun c a w hq => hq.elim) f listed a wa (Region.free_spec hoj hfree) hcl hrd (v := undef) (.inr ⟨hw, rfl⟩) hS2 ?_
        exact ih p' _ _ u _ wa θ (hcl.set hrd) hp' (hI.finP oj.dst (dst_lt hoko) rfl) (presTo undef) (hS3 undef) h1
    | ef _ i p' hr hlt hp' =>
      refine ⟨fun h0 => (by rw [hr] at h0; cases h0), fun x hx => ?_⟩
      rw [hr] at hx
      simp only [List.mem_singleton] at hx
      subst hx
      refine stepE_sound (p := p') hok hws hgh hI hP (hS.imp id fun hh => ?_) hlt (fun st' u' a' w' θ' hI' hP' hS' hW => ih p' _ st' u' a' w' θ' (hcl.set (by rw [hr]; simp)) hp' hI' hP' hS' hW) h
      simp only [anyTake, anyLate, Bool.or_eq_false_iff] at hh
      exact ⟨hh.1, hh.2.2, hh.2.1⟩
    | ef2 _ i j p' q' hr hlt hlt' hp' hq' =>
      refine ⟨fun h0 => (by rw [hr] at h0; cases h0), fun x hx => ?_⟩
      rw [hr] at hx
      simp only [List.mem_cons, List.not_mem_nil, or_false] at hx
      rcases hx with rfl | rfl
      · refine stepE_sound (p := p') hok hws hgh hI hP (hS.imp id fun hh => ?_) hlt (fun st' u' a' w' θ' hI' hP' hS' hW => ih p' _ st' u' a' w' θ' (hcl.set (by rw [hr]; simp)) hp' hI' hP' hS' hW) h.1
        simp only [anyTake, anyLate, Bool.or_eq_false_iff] at hh
        exact ⟨hh.1.1, hh.2.1.2, hh.2.1.1⟩
      · refine stepE_sound (p := q') hok hws hgh hI hP (hS.imp id fun hh => ?_) hlt' (fun st' u' a' w' θ' hI' hP' hS' hW => ih q' _ st' u' a' w' θ' (hcl.set (by rw [hr]; simp)) hq' hI' hP' hS' hW) h.2
        simp only [anyTake, anyLate, Bool.or_eq_false_iff] at hh
        exact ⟨hh.1.2, hh.2.2.2, hh.2.2.1⟩
    | ef3 _ i j k p' q' r' hr hlt hlt' hlt'' hp' hq' hr' =>
      refine ⟨fun h0 => (by rw [hr] at h0; cases h0), fun x hx => ?_⟩
      rw [hr] at hx
      simp only [List.mem_cons, List.not_mem_nil, or_false] at hx
      rcases hx with rfl | rfl | rfl
      · refine stepE_sound (p := p') hok hws hgh hI hP (hS.imp id fun hh => ?_) hlt (fun st' u' a' w' θ' hI' hP' hS' hW => ih p' _ st' u' a' w' θ' (hcl.set (by rw [hr]; simp)) hp' hI' hP' hS' hW) h.1
        simp only [anyTake, anyLate, Bool.or_eq_false_iff] at hh
        exact ⟨hh.1.1.1, hh.2.1.1.2, hh.2.1.1.1⟩
      · refine stepE_sound (p := q') hok hws hgh hI hP (hS.imp id fun hh => ?_) hlt' (fun st' u' a' w' θ' hI' hP' hS' hW => ih q' _ st' u' a' w' θ' (hcl.set (by rw [hr]; simp)) hq' hI' hP' hS' hW) h.2.1
        simp only [anyTake, anyLate, Bool.or_eq_false_iff] at hh
        exact ⟨hh.1.1.2, hh.2.1.2.2, hh.2.1.2.1⟩
      · refine stepE_sound (p := r') hok hws hgh hI hP (hS.imp id fun hh => ?_) hlt'' (fun st' u' a' w' θ' hI' hP' hS' hW => ih r' _ st' u' a' w' θ' (hcl.set (by rw [hr]; simp)) hr' hI' hP' hS' hW) h.2.2
        simp only [anyTake, anyLate, Bool.or_eq_false_iff] at hh
        exact ⟨hh.1.2, hh.2.2.2, hh.2.2.1⟩

/-- A region that draws its order. -/
theorem Wd_region {ws : List Nat} {id : Nat} {ops : Array Oper} {Q : Exit → St → UW → Prop} {p : Plan} (hm : E.P.follows .mixedOrders = true) (hok : ∀ o ∈ ops.toList, okOper C.n o = true) (hws : ∀ o ∈ ops.toList, ∀ t, o.dst = some t → t ∈ ws)
    (hp : mkPlan ops = some p) (hI : Inv C a wa st u θ) (h : Wd E fz ops u (Q .normal) p st u) : (Code.region id ops true).wpIn (Fw C.ro) 0 E.P (QW C fz ws st Q) a wa := by
  unfold mkPlan at hp
  cases hs : Region.noSelect ops with
  | false => simp [hs] at hp
  | true =>
    simp only [hs, cond_true] at hp
    have hI' := hI.drew
    have key := Wd_sound (E := E) (u0 := u) (fz := fz) (Q := Q) (st0 := st) (stH := st) (θ0 := θ) hok hws hs hI.ghosts ops.size p _ st u a _ θ (Cl.none ops _) hp hI' (Pres.refl _ _ _ _) (.inl ⟨Below.refl _ _, ⟨rfl, fun _ _ _ => rfl, fun _ _ _ _ _ => rfl⟩⟩) h
    have hdf : ∀ (j : Nat) (o : Oper) c, ops[j]? = some o → o.op ≠ .defer c := by
      intro j o c ho
      have hj : ops.toList[j]? = some o := by simpa using ho
      exact okOper_defer (hok o (List.mem_of_getElem? hj)) c
    refine wpIn_mono (wpIn_region_any hm (wpAny_of_T C.ro hdf _ _ _ _ key)) fun e a' w' hq => ?_
    cases e with
    | normal => exact hq
    | _ => exact hq.elim

end
end Go.Eng
