import Derived.Test.YtfjemjnbemdkgaaPvI
/-
  Plain values, for their users: calls, frames, append, sequences.
-/
namespace Go.Eng
open Go.RowKit
set_option linter.unusedVariables false
set_option linter.unusedSimpArgs false
set_option linter.unnecessarySimpa false

theorem CIf.t {c : Bool} {A B : Prop} (hc : c = true) (h : A) : CIf c A B := by subst hc; exact h
theorem CIf.f {c : Bool} {A B : Prop} (hc : c = false) (h : B) : CIf c A B := by subst hc; exact h
theorem CIf.mk {c : Bool} {A B : Prop} (h1 : c = true → A) (h2 : c = false → B) : CIf c A B := CIf_iff.2 ⟨h1, h2⟩

theorem CJoin.of {α β : Type} {A : (α → β → Prop) → Prop} {B : α → β → Prop} (h : ∀ J : α → β → Prop, (∀ s u, B s u → J s u) → A J) : CJoin A B := ⟨B, h B fun _ _ h => h, fun _ _ h => h⟩

/-- A loop that counts up to n. -/
theorem LoopI.up {γ : Type} {body : (Int → γ → Prop) → Int → γ → Prop} {u : γ} (n : Nat) (hn : n < 9223372036854775808) (I : Nat → γ → Prop) (h0 : I 0 u)
    (h : ∀ (k : Nat) (u : γ) (next : Int → γ → Prop), k ≤ n → I k u → (k < n → ∀ u', I (k + 1) u' → next (IntKind.wrap .i64 ((k : Int) + 1)) u') → body next (k : Int) u) : LoopI body 0 u := by
  refine ⟨fun m s u => ∃ k : Nat, s = (k : Int) ∧ k ≤ n ∧ I k u ∧ m = n - k, ⟨n, 0, rfl, Nat.zero_le _, h0, rfl⟩, ?_⟩
  rintro _ _ u ⟨k, rfl, hk, hI, rfl⟩
  refine h k u _ hk hI fun hlt u' hI' => ?_
  rw [wrap_id (by omega) (by omega)]
  exact ⟨n - (k + 1), by omega, k + 1, by omega, by omega, hI', rfl⟩

/-- The same, beside something else that changes. -/
theorem LoopI.up2 {β γ : Type} {body : (β × Int → γ → Prop) → β × Int → γ → Prop} {x : β} {u : γ} (n : Nat) (hn : n < 9223372036854775808) (I : Nat → β → γ → Prop) (h0 : I 0 x u)
    (h : ∀ (k : Nat) (x : β) (u : γ) (next : β × Int → γ → Prop), k ≤ n → I k x u → (k < n → ∀ x' u', I (k + 1) x' u' → next (x', IntKind.wrap .i64 ((k : Int) + 1)) u') → body next (x, (k : Int)) u) : LoopI body (x, 0) u := by
  refine ⟨fun m s u => ∃ k : Nat, s.2 = (k : Int) ∧ k ≤ n ∧ I k s.1 u ∧ m = n - k, ⟨n, 0, rfl, Nat.zero_le _, h0, rfl⟩, ?_⟩
  rintro _ ⟨x, _⟩ u ⟨k, rfl, hk, hI, rfl⟩
  refine h k x u _ hk hI fun hlt x' u' hI' => ?_
  rw [wrap_id (by omega) (by omega)]
  exact ⟨n - (k + 1), by omega, k + 1, by simp, by omega, hI', rfl⟩

section
variable {P : Program} {g : FuncId} {args : List PV} {μ ν : Mem} {K K' : PV → Mem → Prop}

theorem CallP.mono (h : CallP P g args μ K) (hk : ∀ v μ', K v μ' → K' v μ') : CallP P g args μ K' := fun Z u vs hg hw ha => by
  obtain ⟨hc, h⟩ := h Z u vs hg hw ha
  refine ⟨hc, h.mono' fun v lo w' _ _ hp => ?_⟩
  obtain ⟨Z', μ', p, e, g', hr, hK⟩ := hp
  exact ⟨Z', μ', p, e, g', hr, hk p μ' hK⟩

/-- The value is forgotten in part, something is let go. -/
theorem CallP.weak (h : CallP P g args μ K) (hk : ∀ v μ', K v μ' → ∃ v' μ'', (∀ Z r, Rep Z v r → Rep Z v' r) ∧ μ''.sub μ' ∧ K' v' μ'') : CallP P g args μ K' := fun Z u vs hg hw ha => by
  obtain ⟨hc, h⟩ := h Z u vs hg hw ha
  refine ⟨hc, h.mono' fun v lo w' _ _ hp => ?_⟩
  obtain ⟨Z', μ', p, e, g', hr, hK⟩ := hp
  obtain ⟨v', μ'', h1, h2, h3⟩ := hk p μ' hK
  exact ⟨Z', μ'', v', e.sub h2, g'.sub h2, h1 Z' _ hr, h3⟩

theorem CallP.wk (h : CallP P g args μ fun p μ' => K (Eng.wk p) μ') : CallP P g args μ K := h.weak fun v μ' hk => ⟨Eng.wk v, μ', fun Z r h => h.wk, fun _ _ h => h, hk⟩

theorem Mem.or_left {μ ν : Mem} {b : Nat} {o : Ob} (h : μ b = some o) : (μ.or ν) b = some o := by simp [Mem.or, h]
theorem Mem.or_right {μ ν : Mem} {b : Nat} (h : μ b = none) : (μ.or ν) b = ν b := by simp [Mem.or, h]
@[simp] theorem Mem.or_M0 (μ : Mem) : μ.or M0 = μ := by
  funext b; unfold Mem.or; cases μ b <;> rfl
@[simp] theorem Mem.M0_or (μ : Mem) : M0.or μ = μ := by funext b; rfl
theorem Mem.or_ne {μ ν : Mem} {b : Nat} (h : (μ.or ν) b ≠ Option.none) : μ b ≠ Option.none ∨ ν b ≠ Option.none := by
  cases hb : μ b with
  | some o => exact .inl (by simp)
  | none => rw [Mem.or_right hb] at h; exact .inr h
@[simp] theorem M0_at (b : Nat) : M0 b = Option.none := rfl
theorem Mem.sep_M0 (μ : Mem) : M0.sep μ := fun b => .inl rfl

/-- What a call does not look at stays. -/
theorem CallP.frame (h : CallP P g args μ K) (hs : μ.sep ν) : CallP P g args (μ.or ν) fun v μ' => ∃ μ1, μ1.sep ν ∧ μ' = μ1.or ν ∧ K v μ1 := fun Z u vs hg hw ha => by
  have hμ : ∀ b o, μ b = some o → (o.rw = true → u.pub b) ∧ ObOk Z u b o := fun b o e => hg.mem b o (Mem.or_left e)
  have hν : ∀ b o, ν b = some o → μ b = none ∧ (o.rw = true → u.pub b) ∧ ObOk Z u b o := fun b o e => by
    have hn : μ b = none := (hs b).resolve_right (by rw [e]; simp)
    exact ⟨hn, hg.mem b o (by rw [Mem.or_right hn]; exact e)⟩
  have hg1 : Good Z ⟨u.toWorld, fun b => ∃ o, μ b = some o ∧ o.rw = true⟩ μ := ⟨hg.zok, fun b o e => ⟨fun hr => ⟨o, e, hr⟩, (hμ b o e).2⟩⟩
  obtain ⟨hc, F, hF, hcall⟩ := h Z ⟨u.toWorld, fun b => ∃ o, μ b = some o ∧ o.rw = true⟩ vs hg1 (fun b ⟨o, ho, _⟩ => hg1.ltM (by rw [ho]; simp)) ha
  refine ⟨hc, F, fun b hb => ?_, hcall.mono fun v lo w' hm hlo hp => ?_⟩
  · obtain ⟨o, ho, hr⟩ := hF b hb
    exact (hμ b o ho).1 hr
  · obtain ⟨Z', μ1, p, e, g', hr, hK⟩ := hp
    have hnb : ∀ b o, ν b = some o → w'.heap[b]? = u.heap[b]? ∧ Z' b = Z b ∧ μ1 b = none := fun b o hb => by
      obtain ⟨h1, _, h2⟩ := hν b o hb
      have hlt := h2.lt
      refine ⟨hm.keep b hlt fun hf => (by obtain ⟨o', ho', _⟩ := hF b hf; rw [h1] at ho'; cases ho'), ?_, ?_⟩
      · cases hz : Z b with
        | some C => exact e.zs b C hz h1
        | none =>
          cases hz' : Z' b with
          | none => rfl
          | some C =>
            rcases e.zn b (by rw [hz']; simp) with h3 | h3 | h3
            · exact absurd hz h3
            · exact absurd h1 h3
            · have : u.heap.size ≤ b := h3; omega
      · cases hx : μ1 b with
        | none => rfl
        | some o' =>
          rcases e.mn b (by rw [hx]; simp) with h3 | h3
          · exact absurd h1 h3
          · have : u.heap.size ≤ b := h3; omega
    refine ⟨Z', μ1.or ν, p, ⟨e.le, fun b C hb hn => ?_, fun b hb => ?_, fun b hb => ?_, e.lt⟩, ⟨g'.zok, fun b o ho => ?_⟩, hr, μ1, fun b => ?_, rfl, hK⟩
    · refine e.zs b C hb ?_
      cases hx : μ b with
      | none => rfl
      | some o => rw [Mem.or_left hx] at hn; cases hn
    · rcases e.zn b hb with h3 | h3 | h3
      · exact .inl h3
      · refine .inr (.inl ?_)
        cases hx : μ b with
        | none => exact absurd hx h3
        | some o => rw [Mem.or_left hx]; simp
      · exact .inr (.inr h3)
    · rcases Mem.or_ne hb with h3 | h3
      · rcases e.mn b h3 with h4 | h4
        · left
          cases hx : μ b with
          | none => exact absurd hx h4
          | some o => rw [Mem.or_left hx]; simp
        · exact .inr h4
      · cases hx : ν b with
        | none => exact absurd hx h3
        | some o => exact .inl (by rw [Mem.or_right (hν b o hx).1, hx]; simp)
    · cases hx : μ1 b with
      | some o' =>
        rw [Mem.or_left hx] at ho; cases ho
        obtain ⟨p1, p2⟩ := g'.mem b _ hx
        refine ⟨fun hrw => ?_, p2⟩
        rcases p1 hrw with ⟨o2, hy, hr2⟩ | p1
        · exact .inl ((hμ b o2 hy).1 hr2)
        · exact .inr p1
      | none =>
        rw [Mem.or_right hx] at ho
        obtain ⟨h1, h2, h3⟩ := hν b o ho
        obtain ⟨h4, h5, h6⟩ := hnb b o ho
        exact ⟨fun hrw => .inl (h2 hrw), h3.go e.le h5 h4⟩
    · cases hx : ν b with
      | none => exact .inr rfl
      | some o => exact .inl (hnb b o hx).2.2

/-- A function that looks at values alone. -/
def PureK (P : Program) (g : FuncId) (args : List PV) (K : PV → Prop) : Prop := CallP P g args M0 fun p _ => K p

/-- .. and answers r. -/
def Pure (P : Program) (g : FuncId) (args : List PV) (r : PV) : Prop := PureK P g args fun p => p = r

theorem PureK.call {Kp : PV → Prop} (h : PureK P g args Kp) (hk : ∀ p, Kp p → K p μ) : CallP P g args μ K := by
  have h1 := CallP.frame (ν := μ) h (Mem.sep_M0 μ)
  rw [Mem.M0_or] at h1
  refine h1.weak fun v μ' ⟨μ1, hs, e, hK⟩ => ⟨v, μ, fun _ _ h => h, fun b o hb => ?_, hk v hK⟩
  rw [e, Mem.or_right ((hs b).resolve_right (by rw [hb]; simp))]; exact hb

theorem Pure.call {r : PV} (h : Pure P g args r) (hk : K r μ) : CallP P g args μ K := PureK.call h fun p e => by subst e; exact hk

theorem PureK.q {Kp : PV → Prop} (h : PureK P g args Kp) (hk : ∀ p, Kp p → K p M0) : CallQ P g args μ K := fun Z u vs hg hw ha => by
  obtain ⟨hc, hcall⟩ := h Z ⟨u.toWorld, fun _ => False⟩ vs ⟨hg.zok, fun b o e => by cases e⟩ (fun _ h => h.elim) ha
  refine ⟨hc, hcall.mono' fun v lo w' _ _ hp => ?_⟩
  obtain ⟨Z', μ', p, e, g', hr, hK⟩ := hp
  exact ⟨Z', M0, p, e.sub (fun b o h => by cases h), g'.sub (fun b o h => by cases h), hr, hk p hK⟩

theorem Pure.q {r : PV} (h : Pure P g args r) (hk : K r M0) : CallQ P g args μ K := PureK.q h fun p e => by subst e; exact hk

theorem PureK.mono {Kp Kp' : PV → Prop} (h : PureK P g args Kp) (hk : ∀ p, Kp p → Kp' p) : PureK P g args Kp' := CallP.mono h fun v _ => hk v

/-- From a formula to a pure contract: places are forgotten. -/
theorem PureK.of {Kp : PV → Prop} (h : CallP P g args M0 fun p _ => Kp (Eng.wk p)) : PureK P g args Kp := CallP.wk h

end

/-! ### append -/
/-- A list under construction may be gone on with. -/
def TipIn (fl : Fl) (n size : Nat) (μ : Mem) : Prop :=
  match fl with
  | .sh => False
  | .nr => True
  | .nil => True
  | .tip b c => μ b = some (.tip (n * size) (c * size))

def Fl.at (fl : Fl) (b : Nat) : Prop := match fl with | .tip b' _ => b = b' | _ => False

theorem appL.go {q : Bool} {size bytes : Nat} {fl : Fl} {rows new : List (List PV)} {μ : Mem} {K : Fl → Mem → Prop} (h : TipIn fl rows.length size μ) (hb : (rows.length + new.length) * bytes ≤ 140737488355328) (h62 : rows.length + new.length < 4611686018427387904)
    (hK : ∀ fl' μ', TipIn fl' (rows.length + new.length) size μ' → (∀ b o, μ b = some o → ¬ fl.at b → μ' b = some o ∧ ¬ fl'.at b) → K fl' μ') (hq : q = true → ∀ b c, fl ≠ .tip b c := by first | (intro h; cases h; done) | (intro _ b c h; cases h)) : appL q size bytes fl rows new μ K := by
  refine ⟨hb, h62, ?_⟩
  cases new with
  | nil => exact hK fl μ (by simpa using h) (fun b o h1 h2 => ⟨h1, h2⟩)
  | cons r rs =>
    show appF q size fl rows.length (r :: rs).length μ K
    have nw : ∀ b c, μ b = none → K (.tip b c) (μ.set b (some (.tip ((rows.length + (r :: rs).length) * size) (c * size)))) := fun b c hm => by
      refine hK _ _ (Mem.set_same _ _ _) fun b' o h1 h2 => ?_
      have hne : b' ≠ b := by rintro rfl; rw [hm] at h1; cases h1
      exact ⟨by rw [Mem.set_ne _ _ hne]; exact h1, hne⟩
    cases fl with
    | sh => exact h
    | nr => exact fun b c hm _ => nw b c hm
    | nil => exact fun b c hm _ => nw b c hm
    | tip b c =>
      cases q with
      | true => exact absurd rfl (hq rfl b c)
      | false =>
        refine ⟨h, fun b' c' hor _ => hK _ _ (Mem.set_same _ _ _) fun b2 o h1 h2 => ?_⟩
        have h2 : b2 ≠ b := h2
        have hne : b2 ≠ b' := by
          rintro rfl
          rcases hor with e | e
          · exact h2 e
          · rw [e] at h1; cases h1
        exact ⟨by rw [Mem.set_ne _ _ hne, Mem.set_ne _ _ h2]; exact h1, hne⟩

/-- The same, where nothing else matters. -/
theorem appL.go1 {q : Bool} {size bytes : Nat} {fl : Fl} {rows new : List (List PV)} {μ : Mem} {K : Fl → Mem → Prop} (h : TipIn fl rows.length size μ) (hb : (rows.length + new.length) * bytes ≤ 140737488355328) (h62 : rows.length + new.length < 4611686018427387904)
    (hK : ∀ fl' μ', TipIn fl' (rows.length + new.length) size μ' → K fl' μ') (hq : q = true → ∀ b c, fl ≠ .tip b c := by first | (intro h; cases h; done) | (intro _ b c h; cases h)) : appL q size bytes fl rows new μ K := appL.go h hb h62 (fun fl' μ' h1 _ => hK fl' μ' h1) hq

/-! ### sequences -/
/-- What is handed to a loop's body: values, and how the memory grows by it. -/
abbrev Item := List PV → Mem → Mem → Prop

/-- Calling f with a function y calls y with these, one behind the other, till it says no. 'St': what f does to the memory ahead. -/
def SeqG (P : Program) (f : PV) (items : List Item) (St : Mem → Mem → Prop) : Prop :=
  (∃ g a b, f = .fn (.func g) a b) ∧ ∀ (fy : Fn) (ya yb : List PV) (I : Nat → Mem → Prop) (S : Mem → Prop) (μ : Mem), fnOk fy True → (∀ μ', St μ μ' → I 0 μ') →
    (∀ (k : Nat) (h : k < items.length) (vs : List PV) (μ μ1 : Mem), I k μ → items[k] vs μ μ1 → CallVP P (.fn fy ya yb) vs μ1 fun v μ' => (v = pB true ∧ I (k + 1) μ') ∨ (v = pB false ∧ S μ')) →
    CallVP P f [.fn fy ya yb] μ fun _ μ' => I items.length μ' ∨ S μ'

def flatItem (vs : List PV) : Item := fun vs' μ μ' => vs' = vs ∧ μ' = μ

/-- Values alone; nothing is touched ahead. -/
abbrev SeqP (P : Program) (f : PV) (items : List (List PV)) : Prop := SeqG P f (items.map flatItem) Eq

theorem CallVP.mono {P : Program} {f : PV} {args : List PV} {μ : Mem} {K K' : PV → Mem → Prop} (h : CallVP P f args μ K) (hk : ∀ v μ', K v μ' → K' v μ') : CallVP P f args μ K' := by
  unfold CallVP at h ⊢
  split at h
  · exact h.mono hk
  · intro Z u fv vs hg hw hf ha
    refine CallV.mono (h Z u fv vs hg hw hf ha) fun v lo w' _ _ hp => ?_
    obtain ⟨Z', μ', p, e, g', hr, hK⟩ := hp
    exact ⟨Z', μ', p, e, g', hr, hk p μ' hK⟩

theorem Mem.set_set (μ : Mem) (b : Nat) (o o' : Option Ob) : (μ.set b o).set b o' = μ.set b o' := by
  funext c; by_cases h : c = b
  · subst h; simp
  · rw [Mem.set_ne _ _ h, Mem.set_ne _ _ h, Mem.set_ne _ _ h]

/-- A record of the machine's beside does not matter. -/
def StabM (A : Mem → Mem → Prop) : Prop := ∀ (l : Nat) (o : Ob) (μ μ' : Mem), μ l = none → A (μ.set l (some o)) μ' → ∃ μ1, μ1 l = none ∧ μ' = μ1.set l (some o) ∧ A μ μ1

theorem StabM.eq : StabM Eq := fun l o μ μ' hl e => ⟨μ, hl, e.symm, rfl⟩
theorem flatItem.stab (vs vs' : List PV) : StabM (flatItem vs vs') := fun l o μ μ' hl e => ⟨μ, hl, e.2, e.1, rfl⟩

theorem RangeP.seq {P : Program} {f : PV} {items : List Item} {St : Mem → Mem → Prop} {body : List PV → (Option Code → Mem → Prop) → Mem → Prop} {K : Option Code → Mem → Prop} {μ : Mem} (hs : SeqG P f items St)
    (hSt : StabM St) (hIt : ∀ A ∈ items, ∀ vs, StabM (A vs)) (I : Nat → Mem → Prop) (S : Code → Mem → Prop) (h0 : ∀ μ', St μ μ' → I 0 μ')
    (hstep : ∀ (k : Nat) (h : k < items.length) (vs : List PV) (μ μ1 : Mem) (R : Option Code → Mem → Prop), I k μ → items[k] vs μ μ1 → (∀ μ', I (k + 1) μ' → R none μ') → (∀ c μ', S c μ' → R (some c) μ') → body vs R μ1)
    (hend : ∀ μ, I items.length μ → K none μ) (hS : ∀ c μ, S c μ → K (some c) μ) : RangeP P f body K μ := by
  obtain ⟨hf, hs⟩ := hs
  refine ⟨hf, fun l rec hl hy => ?_⟩
  refine (hs (.yield l) [] [] (fun k μ2 => ∃ μ3, μ3 l = none ∧ μ2 = μ3.set l (some (rec none)) ∧ I k μ3) (fun μ2 => ∃ c μ3, μ3 l = none ∧ μ2 = μ3.set l (some (rec (some c))) ∧ S c μ3) _ trivial (fun μ' hst => ?_) ?_).mono ?_
  · obtain ⟨μ1, h1, h2, h3⟩ := hSt l _ μ μ' hl hst
    exact ⟨μ1, h1, h2, h0 μ1 h3⟩
  · rintro k hk vs _ μ1' ⟨μ3, h1, rfl, hI⟩ hA
    obtain ⟨μ1, h2, rfl, hA2⟩ := hIt _ (List.getElem_mem hk) vs l _ μ3 μ1' h1 hA
    refine (hy vs μ1 (fun p μ' => match p with | none => I (k + 1) μ' | some c => S c μ') h2 (hstep k hk vs μ3 μ1 _ hI hA2 (fun μ' h => h) (fun c μ' h => h))).mono ?_
    rintro v μ2 ⟨p, μ4, rfl, h3, rfl, hR⟩
    cases p with
    | none => exact .inl ⟨rfl, μ4, h3, rfl, hR⟩
    | some c => exact .inr ⟨rfl, c, μ4, h3, rfl, hR⟩
  · rintro v μ2 (⟨μ3, h1, rfl, hI⟩ | ⟨c, μ3, h1, rfl, hS'⟩)
    · exact ⟨none, μ3, h1, rfl, hend μ3 hI⟩
    · exact ⟨some c, μ3, h1, rfl, hS c μ3 hS'⟩

/-- The same, of values alone. -/
theorem RangeP.pure {P : Program} {f : PV} {items : List (List PV)} {body : List PV → (Option Code → Mem → Prop) → Mem → Prop} {K : Option Code → Mem → Prop} {μ : Mem} (hs : SeqP P f items)
    (I : Nat → Mem → Prop) (S : Code → Mem → Prop) (h0 : I 0 μ)
    (hstep : ∀ (k : Nat) (h : k < items.length) (μ : Mem) (R : Option Code → Mem → Prop), I k μ → (∀ μ', I (k + 1) μ' → R none μ') → (∀ c μ', S c μ' → R (some c) μ') → body items[k] R μ)
    (hend : ∀ μ, I items.length μ → K none μ) (hS : ∀ c μ, S c μ → K (some c) μ) : RangeP P f body K μ := by
  refine RangeP.seq hs StabM.eq (fun A hA vs => ?_) I S (fun μ' e => e ▸ h0) (fun k hk vs μ μ1 R hI hA h1 h2 => ?_) (fun μ hI => hend μ (by simpa using hI)) hS
  · obtain ⟨vs', _, rfl⟩ := List.mem_map.1 hA
    exact flatItem.stab vs' vs
  · have hk' : k < items.length := by simpa using hk
    simp only [List.getElem_map] at hA
    obtain ⟨rfl, rfl⟩ := hA
    exact hstep k hk' μ1 R hI h1 h2

theorem SeqG.mk {P : Program} {g : FuncId} {a b : List PV} {items : List Item} {St : Mem → Mem → Prop}
    (h : ∀ (fy : Fn) (ya yb : List PV) (I : Nat → Mem → Prop) (S : Mem → Prop) (μ : Mem), fnOk fy True → (∀ μ', St μ μ' → I 0 μ') →
      (∀ (k : Nat) (h : k < items.length) (vs : List PV) (μ μ1 : Mem), I k μ → items[k] vs μ μ1 → CallVP P (.fn fy ya yb) vs μ1 fun v μ' => (v = pB true ∧ I (k + 1) μ') ∨ (v = pB false ∧ S μ')) →
      CallP P g (a ++ [.fn fy ya yb] ++ b) μ fun _ μ' => I items.length μ' ∨ S μ') : SeqG P (.fn (.func g) a b) items St :=
  ⟨⟨g, a, b, rfl⟩, fun fy ya yb I S μ hy h0 hstep => h fy ya yb I S μ hy h0 hstep⟩

theorem SeqP.mk {P : Program} {g : FuncId} {a b : List PV} {items : List (List PV)}
    (h : ∀ (fy : Fn) (ya yb : List PV) (I : Nat → Mem → Prop) (S : Mem → Prop) (μ : Mem), fnOk fy True → I 0 μ →
      (∀ (k : Nat) (h : k < items.length) (μ : Mem), I k μ → CallVP P (.fn fy ya yb) items[k] μ fun v μ' => (v = pB true ∧ I (k + 1) μ') ∨ (v = pB false ∧ S μ')) →
      CallP P g (a ++ [.fn fy ya yb] ++ b) μ fun _ μ' => I items.length μ' ∨ S μ') : SeqP P (.fn (.func g) a b) items :=
  SeqG.mk fun fy ya yb I S μ hy h0 hstep => by
    have := h fy ya yb I S μ hy (h0 μ rfl) (fun k hk μ hI => hstep k (by simpa using hk) _ μ μ hI (by simp [flatItem]))
    simpa using this

/-! ### borrowing -/
/-- Depends on no memory. -/
def PV.flat1 : PV → Bool
  | .raw _ => true
  | _ => false
def PV.flat2 : PV → Bool
  | .raw _ => true
  | .agg cs => cs.all PV.flat1
  | _ => false
def PV.flat : PV → Bool
  | .raw _ => true
  | .agg cs => cs.all PV.flat1
  | .tup vs => vs.all PV.flat2
  | _ => false

theorem Rep.flat1 {Z Z' : Fz} {p : PV} {v : Value} (hf : p.flat1 = true) (h : Rep Z p v) : Rep Z' p v := by
  cases p <;> simp [PV.flat1] at hf
  obtain ⟨rfl, h1, h2⟩ := h.ofRaw
  exact .raw _ h1 h2
theorem Rep.flat2 {Z Z' : Fz} {p : PV} {v : Value} (hf : p.flat2 = true) (h : Rep Z p v) : Rep Z' p v := by
  cases p <;> simp only [PV.flat2] at hf <;> try (cases hf; done)
  · exact h.flat1 (by rfl)
  · obtain ⟨vs, rfl, hc⟩ := h.ofAgg
    exact RepC.toAgg ⟨hc.1, fun i p v a b => ⟨(hc.2 i p v a b).1, (hc.2 i p v a b).2.flat1 (List.all_eq_true.1 hf p (List.mem_of_getElem? a))⟩⟩
theorem Rep.flat {Z Z' : Fz} {p : PV} {v : Value} (hf : p.flat = true) (h : Rep Z p v) : Rep Z' p v := by
  cases p <;> simp only [PV.flat] at hf <;> try (cases hf; done)
  · exact h.flat1 (by rfl)
  · exact h.flat2 hf
  · obtain ⟨vs, rfl, hc⟩ := h.ofTup
    exact Reps.toTup ⟨hc.1, fun i p v a b => ⟨(hc.2 i p v a b).1, (hc.2 i p v a b).2.flat2 (List.all_eq_true.1 hf p (List.mem_of_getElem? a))⟩⟩

/-- A slice of one's own cells, as it reads now. -/
structure SlM (μ : Mem) (a : Option Addr) (n c sz : Nat) (rows : List (List PV)) : Prop where
  len : rows.length = n
  cap : n ≤ c
  spot : c = 0 ∨ noSpot a
  each : ∀ r ∈ rows, r.length = sz
  cell : allCell rows.flatten = true
  read : n ≠ 0 → ∃ b o, a = some ⟨b, o, none⟩ ∧ rdM μ b o (n * sz) = some rows.flatten

/-- How an argument may be read for the time of a call. -/
inductive Bor (μ : Mem) : PV → PV → Prop where
  | same (p : PV) : Bor μ p p
  | list {a : Option Addr} {n c sz : Nat} {rows : List (List PV)} (h : SlM μ a n c sz rows) : Bor μ (.raw (.slice a n c)) (.list sz .sh rows)
  | agg {cs ds : List PV} (hl : cs.length = ds.length) (h : ∀ (i : Nat) c d, cs[i]? = some c → ds[i]? = some d → c = d ∨ ∃ a n k sz rows, c = .raw (.slice a n k) ∧ d = .list sz .sh rows ∧ SlM μ a n k sz rows) : Bor μ (.agg cs) (.agg ds)

/-- Cells that are read as such. -/
def cellsOf : Option Ob → Option (List PV)
  | some (.cells _ cs) => some cs
  | some (.ro _ cs) => some cs
  | _ => none

/-- All of one's own cells, frozen. -/
def Zbor (Z : Fz) (u : UW) (μ : Mem) : Fz := fun b => match cellsOf (μ b) with | some _ => (match u.heap[b]? with | some (.cells A _ _) => some A.toList | _ => none) | none => Z b

theorem cellsOf_ok {Z : Fz} {u : UW} {μ : Mem} (hg : Good Z u μ) {b : Nat} {cs : List PV} (hm : cellsOf (μ b) = some cs) : Z b = none ∧ ∃ (A : Array Value) (T : TypeId), u.heap[b]? = some (.cells A T (0, 0)) ∧ RepM Z cs A.toList := by
  unfold cellsOf at hm
  split at hm
  · rename_i T cs' e; cases hm
    obtain ⟨_, hz, A, hA, hc⟩ := hg.mem b _ e
    exact ⟨hz, A, T, hA, hc⟩
  · rename_i T cs' e; cases hm
    obtain ⟨_, hz, A, hA, hc⟩ := hg.mem b _ e
    exact ⟨hz, A, T, hA, hc⟩
  · cases hm

theorem Zbor_le {Z : Fz} {u : UW} {μ : Mem} (hg : Good Z u μ) : Z.le (Zbor Z u μ) := fun b C hC => by
  refine ⟨C, ?_, List.prefix_refl _⟩
  unfold Zbor
  split
  · rename_i cs hm
    have hz := (cellsOf_ok hg hm).1
    rw [hz] at hC; cases hC
  · exact hC

theorem Zbor_at {Z : Fz} {u : UW} {μ : Mem} (hg : Good Z u μ) {b : Nat} {cs : List PV} (hm : cellsOf (μ b) = some cs) : ∃ A : Array Value, Zbor Z u μ b = some A.toList ∧ RepM Z cs A.toList := by
  obtain ⟨hz, A, T, hA, hc⟩ := cellsOf_ok hg hm
  refine ⟨A, ?_, hc⟩
  unfold Zbor
  rw [hm]
  simp only [hA]

theorem rdM_of {μ : Mem} {b o n : Nat} {r : List PV} (h : rdM μ b o n = some r) : ∃ cs, cellsOf (μ b) = some cs ∧ o + n ≤ cs.length ∧ r = (cs.drop o).take n := by
  unfold rdM at h
  split at h
  · rename_i e; split at h
    · rename_i hl; cases h; exact ⟨_, by rw [e]; rfl, hl, rfl⟩
    · cases h
  · rename_i e; split at h
    · rename_i hl; cases h; exact ⟨_, by rw [e]; rfl, hl, rfl⟩
    · cases h
  · cases h

theorem SlM.rep {Z : Fz} {u : UW} {μ : Mem} (hg : Good Z u μ) {a : Option Addr} {n c sz : Nat} {rows : List (List PV)} (h : SlM μ a n c sz rows) : Rep (Zbor Z u μ) (.list sz .sh rows) (.slice a n c) := by
  by_cases hn : n = 0
  · have : rows = [] := List.eq_nil_of_length_eq_zero (by rw [h.len, hn])
    subst this
    exact .list sz .sh [] a n c 0 0 [] (fun _ _ => undef) (by simp [hn]) h.cap h.spot (by simp) (fun h => absurd hn h) (fun i j hi => by omega) (by simp) (by simp) trivial
  · obtain ⟨b, o, rfl, hr⟩ := h.read hn
    obtain ⟨cs, hm, hl, hr⟩ := rdM_of hr
    obtain ⟨A, hz, hrm⟩ := Zbor_at hg hm
    have hAs : A.toList.length = cs.length := hrm.1
    have hv : RepC (Zbor Z u μ) rows.flatten ((A.toList.drop o).take (n * sz)) := by
      rw [hr]
      exact (((hrm.mono (Zbor_le hg)).drop o).take _).c (by rw [← hr]; exact h.cell)
    have hcap := h.cap
    have := rep_list (Z := Zbor Z u μ) (sz := sz) (fl := .sh) (rows := rows) (b := b) (o := o) (c := c) (C := A.toList) h.each hv hz (fun k hk => by
      rw [List.getElem?_take, if_pos (by simp at hk; omega), List.getElem?_drop]) (by rw [h.len]; exact hcap) trivial
    rw [h.len] at this
    exact this

theorem Bor.rep {Z : Fz} {u : UW} {μ : Mem} (hg : Good Z u μ) {p q : PV} {v : Value} (hb : Bor μ p q) (hr : Rep Z p v) : Rep (Zbor Z u μ) q v ∧ (p.ok = true → q.ok = true) := by
  cases hb with
  | same => exact ⟨hr.mono (Zbor_le hg), id⟩
  | list h =>
    rw [hr.ofRaw.1]
    exact ⟨h.rep hg, fun _ => rfl⟩
  | agg hl h =>
    obtain ⟨vs, rfl, hc⟩ := hr.ofAgg
    refine ⟨RepC.toAgg ⟨hc.1.trans hl, fun i d v hd hv => ?_⟩, fun _ => rfl⟩
    have hlt : i < _ := (List.getElem?_eq_some_iff.1 hd).1
    rename_i cs ds
    have hi : cs[i]? = some cs[i] := List.getElem?_eq_getElem (by omega)
    have hcv := hc.2 i _ v hi hv
    rcases h i _ d hi hd with e | ⟨a, n, k, sz, rows, e1, e2, hs⟩
    · rw [← e]; exact ⟨hcv.1, hcv.2.mono (Zbor_le hg)⟩
    · rw [e2]
      refine ⟨rfl, ?_⟩
      have := hcv.2
      rw [e1] at this
      rw [this.ofRaw.1]
      exact hs.rep hg

/-- A call of what looks at values alone, that may look at one's own cells meanwhile. -/
theorem CallP.borrow {P : Program} {g : FuncId} {args args' : List PV} {μ : Mem} {K : PV → Mem → Prop} {Kp : PV → Prop} (h : PureK P g args' Kp) (hl : args.length = args'.length) (hb : ∀ (i : Nat) p q, args[i]? = some p → args'[i]? = some q → Bor μ p q) (hf : ∀ p, Kp p → p.flat = true) (hk : ∀ p, Kp p → K p μ) : CallP P g args μ K := fun Z u vs hg hw ha => by
  have hgb : Good (Zbor Z u μ) ⟨u.toWorld, fun _ => False⟩ M0 := by
    refine ⟨fun b C hC => ?_, fun b o h => by cases h⟩
    unfold Zbor at hC
    split at hC
    · split at hC
      · rename_i A T f hA; cases hC; exact ⟨A, T, f, hA, List.prefix_refl _⟩
      · cases hC
    · exact hg.zok b C hC
  have ha' : Reps (Zbor Z u μ) args' vs := ⟨ha.1.trans hl, fun i q v hq hv => by
    have hlt : i < args'.length := (List.getElem?_eq_some_iff.1 hq).1
    have hp : args[i]? = some args[i] := List.getElem?_eq_getElem (by omega)
    have := ha.2 i _ v hp hv
    obtain ⟨h1, h2⟩ := (hb i _ q hp hq).rep hg this.2
    exact ⟨h2 this.1, h1⟩⟩
  obtain ⟨hc, F, hF, hcall⟩ := h (Zbor Z u μ) ⟨u.toWorld, fun _ => False⟩ vs hgb (fun _ h => h.elim) ha'
  refine ⟨hc, F, fun b hb => (hF b hb).elim, hcall.mono fun v lo w' hm hlo hp => ?_⟩
  obtain ⟨Z', μ', p, e, g', hr, hK⟩ := hp
  have keep : ∀ b, b < u.heap.size → w'.heap[b]? = u.heap[b]? := fun b hb => hm.keep b hb fun hf => hF b hf
  refine ⟨Z, μ, p, hg.ext, hg.go (Fz.le.refl Z) (fun b C hC => .inl ⟨hC, keep b (hg.ltZ (by rw [hC]; simp))⟩) (fun b o ho => .inl ⟨ho, keep b (hg.ltM (by rw [ho]; simp)), fun hp => .inl hp, rfl⟩), hr.flat (hf p hK), hk p hK⟩

/-- A value as it is read in another way, while one's own cells are frozen: the same; a list that anyone may hold; nil as a slice; a slice as a list; and so within. -/
inductive BorV (μ : Mem) : PV → PV → Prop where
  | same (c : PV) : BorV μ c c
  | wk (c : PV) : BorV μ c (wk1 c)
  | nil (sz : Nat) (rows : List (List PV)) : BorV μ (.list sz .nil rows) (.raw (.slice none 0 0))
  | lst0 (a : Option Addr) (k sz : Nat) (spot : k = 0 ∨ noSpot a) : BorV μ (.raw (.slice a 0 k)) (.list sz .sh [])
  | lst (b o k sz : Nat) (rows : List (List PV)) (cs : List PV) (cap : rows.length ≤ k) (each : ∀ r ∈ rows, r.length = sz) (cell : allCell rows.flatten = true) (read : rdM μ b o (rows.length * sz) = some cs) (h : ∀ (i : Nat) c d, cs[i]? = some c → rows.flatten[i]? = some d → BorV μ c d) : BorV μ (.raw (.slice (some ⟨b, o, none⟩) rows.length k)) (.list sz .sh rows)
  | agg {cs ds : List PV} (hl : cs.length = ds.length) (cell : allCell ds = true) (h : ∀ (i : Nat) c d, cs[i]? = some c → ds[i]? = some d → BorV μ c d) : BorV μ (.agg cs) (.agg ds)
  | tup {cs ds : List PV} (hl : cs.length = ds.length) (ok : ∀ d ∈ ds, d.ok = true) (h : ∀ (i : Nat) c d, cs[i]? = some c → ds[i]? = some d → BorV μ c d) : BorV μ (.tup cs) (.tup ds)

theorem BorV.rep {Z : Fz} {u : UW} {μ : Mem} (hg : Good Z u μ) {c d : PV} (hb : BorV μ c d) : ∀ {v : Value}, Rep Z c v → Rep (Zbor Z u μ) d v := by
  induction hb with
  | same => exact fun hr => hr.mono (Zbor_le hg)
  | wk => exact fun hr => hr.wk1.mono (Zbor_le hg)
  | nil sz rows =>
    intro v hr
    cases hr with
    | list _ _ _ _ _ _ b o C g hn hc hs hr ha hgg hk hp hf =>
      obtain ⟨rfl, rfl, rfl⟩ := hf
      exact .raw _ rfl rfl
  | lst0 a k sz spot =>
    intro v hr
    rw [hr.ofRaw.1]
    exact .list sz .sh [] a 0 k 0 0 [] (fun _ _ => undef) rfl (Nat.zero_le _) spot (by simp) (fun h => absurd rfl h) (fun i j hi => by omega) (by simp) (by simp) trivial
  | lst b o k sz rows cs cap each cell read h ih =>
    intro v hr
    rw [hr.ofRaw.1]
    obtain ⟨cs0, hm, hl, rfl⟩ := rdM_of read
    obtain ⟨A, hz, hrm⟩ := Zbor_at hg hm
    have hAs : A.toList.length = cs0.length := hrm.1
    have hfl : rows.flatten.length = rows.length * sz := flatLen each
    have hv : RepC (Zbor Z u μ) rows.flatten ((A.toList.drop o).take (rows.length * sz)) := by
      refine ⟨by rw [List.length_take, List.length_drop, hfl]; omega, fun i d v hd hv => ?_⟩
      have hcd : d.cell = true := by
        have := List.all_eq_true.1 cell d (List.mem_of_getElem? hd); exact this
      have hi : i < rows.length * sz := by rw [← hfl]; exact (List.getElem?_eq_some_iff.1 hd).1
      have hc : ((cs0.drop o).take (rows.length * sz))[i]? = some (cs0[o + i]'(by omega)) := by
        rw [List.getElem?_take, if_pos hi, List.getElem?_drop, List.getElem?_eq_getElem (by omega)]
      rw [List.getElem?_take, if_pos hi, List.getElem?_drop] at hv
      exact ⟨hcd, ih i _ d hc hd (hrm.2 (o + i) _ v (List.getElem?_eq_getElem (by omega)) hv)⟩
    exact rep_list (Z := Zbor Z u μ) (sz := sz) (fl := .sh) (rows := rows) (b := b) (o := o) (c := k) (C := A.toList) each hv hz (fun j hj => by
      rw [List.getElem?_take, if_pos (by simp at hj; omega), List.getElem?_drop]) cap trivial
  | agg hl cell h ih =>
    intro v hr
    obtain ⟨vs, rfl, hc⟩ := hr.ofAgg
    refine RepC.toAgg ⟨hc.1.trans hl, fun i d v hd hv => ?_⟩
    rename_i cs ds
    have hlt : i < cs.length := by rw [hl]; exact (List.getElem?_eq_some_iff.1 hd).1
    have hi : cs[i]? = some cs[i] := List.getElem?_eq_getElem hlt
    exact ⟨List.all_eq_true.1 cell d (List.mem_of_getElem? hd), ih i _ d hi hd (hc.2 i _ v hi hv).2⟩
  | tup hl ok h ih =>
    intro v hr
    obtain ⟨vs, rfl, hc⟩ := hr.ofTup
    refine Reps.toTup ⟨hc.1.trans hl, fun i d v hd hv => ?_⟩
    rename_i cs ds
    have hlt : i < cs.length := by rw [hl]; exact (List.getElem?_eq_some_iff.1 hd).1
    have hi : cs[i]? = some cs[i] := List.getElem?_eq_getElem hlt
    exact ⟨ok d (List.mem_of_getElem? hd), ih i _ d hi hd (hc.2 i _ v hi hv).2⟩

theorem BorV.list {μ : Mem} {a : Option Addr} {n k sz : Nat} {rows : List (List PV)} (h : SlM μ a n k sz rows) : BorV μ (.raw (.slice a n k)) (.list sz .sh rows) := by
  by_cases hn : n = 0
  · have : rows = [] := List.eq_nil_of_length_eq_zero (by rw [h.len, hn])
    subst this hn
    exact .lst0 a k sz h.spot
  · obtain ⟨b, o, rfl, hr⟩ := h.read hn
    obtain rfl := h.len
    exact .lst b o k sz rows _ h.cap h.each h.cell hr fun i c d hc hd => by rw [hc] at hd; cases hd; exact .same _

def BorL (μ : Mem) (cs ds : List PV) : Prop := cs.length = ds.length ∧ ∀ (i : Nat) c d, cs[i]? = some c → ds[i]? = some d → BorV μ c d

theorem BorL.refl (μ : Mem) (cs : List PV) : BorL μ cs cs := ⟨rfl, fun i c d h1 h2 => by rw [h1] at h2; cases h2; exact .same _⟩
theorem BorL.nil (μ : Mem) : BorL μ [] [] := BorL.refl μ []
theorem BorL.cons {μ : Mem} {c d : PV} {cs ds : List PV} (h : BorV μ c d) (k : BorL μ cs ds) : BorL μ (c :: cs) (d :: ds) := ⟨by simp [k.1], fun i x y h1 h2 => by
  cases i with
  | zero => simp at h1 h2; subst h1 h2; exact h
  | succ i => exact k.2 i x y h1 h2⟩

theorem BorL.rep {Z : Fz} {u : UW} {μ : Mem} (hg : Good Z u μ) {cs ds : List PV} {vs : List Value} (hb : BorL μ cs ds) (hr : RepM Z cs vs) : RepM (Zbor Z u μ) ds vs := by
  refine ⟨hr.1.trans hb.1, fun i d v hd hv => ?_⟩
  have hlt : i < cs.length := by rw [hb.1]; exact (List.getElem?_eq_some_iff.1 hd).1
  have hi : cs[i]? = some cs[i] := List.getElem?_eq_getElem hlt
  exact (hb.2 i _ d hi hd).rep hg (hr.2 i _ v hi hv)

theorem Zbor_none {Z : Fz} {u : UW} {μ : Mem} {b : Nat} (h : μ b = none) : Zbor Z u μ b = Z b := by
  unfold Zbor; rw [h]; rfl

theorem Zbor_zok {Z : Fz} {u : UW} {μ μ1 : Mem} (hg : Good Z u μ) : ∀ b C, Zbor Z u μ1 b = some C → ∃ A T f, u.heap[b]? = some (.cells A T f) ∧ C <+: A.toList := fun b C hC => by
  unfold Zbor at hC
  split at hC
  · split at hC
    · rename_i A T f hA; cases hC; exact ⟨A, T, f, hA, List.prefix_refl _⟩
    · cases hC
  · exact hg.zok b C hC

/-- A call of what only looks: some blocks are read as they are, their slices as lists. -/
theorem CallP.query {P : Program} {g : FuncId} {args : List PV} {μ ν μ1 : Mem} {K : PV → Mem → Prop} {Kq : PV → Prop} (h : CallP P g args ν fun p _ => Kq p) (h1 : ∀ b o, μ1 b = some o → μ b = some o)
    (hν : ∀ b o, ν b = some o → μ1 b = none ∧ ∃ T cs ds, o = .ro T ds ∧ μ b = some (.cells T cs) ∧ BorL μ1 cs ds) (hf : ∀ p, Kq p → p.flat = true) (hk : ∀ p, Kq p → K p μ) : CallP P g args μ K := fun Z u vs hg hw ha => by
  have hg1 : Good Z u μ1 := hg.sub h1
  have hle := Zbor_le hg1
  have hgb : Good (Zbor Z u μ1) ⟨u.toWorld, fun _ => False⟩ ν := by
    refine ⟨Zbor_zok hg, fun b o ho => ?_⟩
    obtain ⟨hn, T, cs, ds, rfl, hm, hb⟩ := hν b o ho
    obtain ⟨_, hz, A, hA, hc⟩ := hg.mem b _ hm
    exact ⟨fun hr => (by cases hr), (Zbor_none hn).trans hz, A, hA, hb.rep hg1 hc⟩
  obtain ⟨hc, F, hF, hcall⟩ := h (Zbor Z u μ1) ⟨u.toWorld, fun _ => False⟩ vs hgb (fun _ h => h.elim) (Reps.mono hle ha)
  refine ⟨hc, F, fun b hb => (hF b hb).elim, hcall.mono fun v lo w' hm hlo hp => ?_⟩
  obtain ⟨Z', μ', p, e, g', hr, hK⟩ := hp
  have keep : ∀ b, b < u.heap.size → w'.heap[b]? = u.heap[b]? := fun b hb => hm.keep b hb fun hf => hF b hf
  refine ⟨Z, μ, p, hg.ext, hg.go (Fz.le.refl Z) (fun b C hC => .inl ⟨hC, keep b (hg.ltZ (by rw [hC]; simp))⟩) (fun b o ho => .inl ⟨ho, keep b (hg.ltM (by rw [ho]; simp)), fun hp => .inl hp, rfl⟩), hr.flat (hf p hK), hk p hK⟩

/-! ### the memory, seen in another way -/
def GU (μ μ' : Mem) : Prop := ∀ (Z : Fz) (u : UW), Good Z u μ → ∃ Z', Ext Z μ u.heap.size Z' μ' ∧ Good Z' u μ'

theorem GU.refl (μ : Mem) : GU μ μ := fun Z u hg => ⟨Z, hg.ext, hg⟩
theorem GU.trans {μ μ' μ'' : Mem} (h : GU μ μ') (k : GU μ' μ'') : GU μ μ'' := fun Z u hg => by
  obtain ⟨Z', e, g⟩ := h Z u hg
  obtain ⟨Z'', e', g'⟩ := k Z' u g
  exact ⟨Z'', e.trans e' (Nat.le_refl _), g'⟩

theorem CallP.pre {P : Program} {g : FuncId} {args : List PV} {μ μ' : Mem} {K : PV → Mem → Prop} (hG : GU μ μ') (h : CallP P g args μ' K) : CallP P g args μ K := fun Z u vs hg hw ha => by
  obtain ⟨Z', e, g'⟩ := hG Z u hg
  obtain ⟨hc, F, hF, h⟩ := h Z' u vs g' hw (Reps.mono e.le ha)
  refine ⟨hc, F, hF, h.mono fun v lo w' _ hs hp => ?_⟩
  obtain ⟨Z'', μ'', p, e', g'', hr, hK⟩ := hp
  exact ⟨Z'', μ'', p, e.trans e' (Nat.le_refl _), g'', hr, hK⟩

theorem CallP.post {P : Program} {g : FuncId} {args : List PV} {μ : Mem} {K : PV → Mem → Prop} (h : CallP P g args μ fun v μ' => ∃ μ'', GU μ' μ'' ∧ K v μ'') : CallP P g args μ K := fun Z u vs hg hw ha => by
  obtain ⟨hc, F, hF, h⟩ := h Z u vs hg hw ha
  refine ⟨hc, F, hF, h.mono fun v lo w' hm hs hp => ?_⟩
  obtain ⟨Z', μ', p, e, g', hr, μ'', hG, hK⟩ := hp
  obtain ⟨Z'', e', g''⟩ := hG Z' _ g'
  exact ⟨Z'', μ'', p, e.trans e' hm.size, g'', hr.mono e'.le, hK⟩

/-- Blocks of one's own are frozen, and cells are seen in another way. -/
theorem GU.bor {μ μ1 μ' : Mem} (h1 : ∀ b o, μ1 b = some o → μ b = some o) (h : ∀ b o, μ' b = some o → μ1 b = none ∧ (μ b = some o ∨ ∃ T cs ds, o = .cells T ds ∧ μ b = some (.cells T cs) ∧ BorL μ1 cs ds)) : GU μ μ' := fun Z u hg => by
  have hg1 : Good Z u μ1 := hg.sub h1
  have hle := Zbor_le hg1
  have hmu : ∀ b, μ b = none → μ1 b = none := fun b hb => by
    cases hx : μ1 b with
    | none => rfl
    | some o => rw [h1 b o hx] at hb; cases hb
  refine ⟨Zbor Z u μ1, ⟨hle, fun b C hC hn => ?_, fun b hb => ?_, fun b hb => ?_, fun _ h' => hg.ltZ h'⟩, Zbor_zok hg, fun b o ho => ?_⟩
  · rw [Zbor_none (hmu b hn)]; exact hC
  · cases hx : μ1 b with
    | none => rw [Zbor_none hx] at hb; exact .inl hb
    | some o => exact .inr (.inl (by rw [h1 b o hx]; simp))
  · cases hx : μ' b with
    | none => exact absurd hx hb
    | some o =>
      rcases (h b o hx).2 with e | ⟨T, cs, ds, _, e, _⟩
      · exact .inl (by rw [e]; simp)
      · exact .inl (by rw [e]; simp)
  · obtain ⟨hn, e | ⟨T, cs, ds, rfl, e, hb⟩⟩ := h b o ho
    · obtain ⟨g1, g2⟩ := hg.mem b o e
      exact ⟨g1, g2.go hle (Zbor_none hn) rfl⟩
    · obtain ⟨g1, hz, A, hA, hc⟩ := hg.mem b _ e
      exact ⟨fun _ => g1 rfl, (Zbor_none hn).trans hz, A, hA, hb.rep hg1 hc⟩

/-- What is one's own is frozen for good, all of it: the answer as it is read then. -/
theorem CallP.sealq {P : Program} {g : FuncId} {args : List PV} {μ : Mem} {K : PV → Prop} (h : CallP P g args μ fun v μ' => ∃ v', BorV μ' v v' ∧ K v') : CallP P g args μ fun v _ => K v := fun Z u vs hg hw ha => by
  obtain ⟨hc, F, hF, h⟩ := h Z u vs hg hw ha
  refine ⟨hc, F, hF, h.mono fun v lo w' hm hs hp => ?_⟩
  obtain ⟨Z', μ', p, e, g', hr, v', hb, hK⟩ := hp
  have hG : GU μ' M0 := GU.bor (μ1 := μ') (fun _ _ h => h) fun b o h => by cases h
  have hle := Zbor_le g'
  refine ⟨Zbor Z' (u.ret lo w') μ', M0, v', ⟨e.le.trans hle, fun b C hC hn => ?_, fun b hb' => ?_, fun b hb' => absurd rfl hb', e.lt⟩, ⟨Zbor_zok g', fun b o h => by cases h⟩, hb.rep g' hr, hK⟩
  · have h1 := e.zs b C hC hn
    obtain ⟨C', h2, _⟩ := hle b C h1
    have : μ' b = none := by
      cases hx : μ' b with
      | none => rfl
      | some o =>
        rcases e.mn b (by rw [hx]; simp) with h3 | h3
        · exact absurd hn h3
        · have := e.lt b (by rw [hC]; simp); omega
    rw [Zbor_none this]; exact h1
  · cases hx : μ' b with
    | none => rw [Zbor_none hx] at hb'; exact e.zn b hb'
    | some o => exact .inr (e.mn b (by rw [hx]; simp))

theorem Zbor_M0 (Z : Fz) (u : UW) : Zbor Z u M0 = Z := by funext b; exact Zbor_none rfl

/-- An answer, seen in another way. -/
theorem CallP.conv {P : Program} {g : FuncId} {args : List PV} {μ : Mem} {K : PV → Mem → Prop} (h : CallP P g args μ fun v μ' => ∃ v', BorV M0 v v' ∧ K v' μ') : CallP P g args μ K := fun Z u vs hg hw ha => by
  obtain ⟨hc, F, hF, h⟩ := h Z u vs hg hw ha
  refine ⟨hc, F, hF, h.mono fun v lo w' hm hs hp => ?_⟩
  obtain ⟨Z', μ', p, e, g', hr, v', hb, hK⟩ := hp
  have := hb.rep (g'.sub (μ' := M0) fun b o h => by cases h) hr
  rw [Zbor_M0] at this
  exact ⟨Z', μ', v', e, g', this, hK⟩

/-- A call of what looks at values alone: each argument as it is read meanwhile. -/
theorem CallP.view {P : Program} {g : FuncId} {args args' : List PV} {μ : Mem} {K : PV → Mem → Prop} {Kp : PV → Prop} (h : PureK P g args' Kp) (hl : args.length = args'.length) (hb : ∀ (i : Nat) p q, args[i]? = some p → args'[i]? = some q → BorV μ p q ∧ q.ok = true) (hf : ∀ p, Kp p → p.flat = true) (hk : ∀ p, Kp p → K p μ) : CallP P g args μ K := fun Z u vs hg hw ha => by
  have hgb : Good (Zbor Z u μ) ⟨u.toWorld, fun _ => False⟩ M0 := ⟨Zbor_zok hg, fun b o h => by cases h⟩
  have ha' : Reps (Zbor Z u μ) args' vs := ⟨ha.1.trans hl, fun i q v hq hv => by
    have hlt : i < args.length := by rw [hl]; exact (List.getElem?_eq_some_iff.1 hq).1
    have hp : args[i]? = some args[i] := List.getElem?_eq_getElem hlt
    obtain ⟨h1, h2⟩ := hb i _ q hp hq
    exact ⟨h2, h1.rep hg (ha.2 i _ v hp hv).2⟩⟩
  obtain ⟨hc, F, hF, hcall⟩ := h (Zbor Z u μ) ⟨u.toWorld, fun _ => False⟩ vs hgb (fun _ h => h.elim) ha'
  refine ⟨hc, F, fun b hb => (hF b hb).elim, hcall.mono fun v lo w' hm hlo hp => ?_⟩
  obtain ⟨Z', μ', p, e, g', hr, hK⟩ := hp
  have keep : ∀ b, b < u.heap.size → w'.heap[b]? = u.heap[b]? := fun b hb => hm.keep b hb fun hf => hF b hf
  refine ⟨Z, μ, p, hg.ext, hg.go (Fz.le.refl Z) (fun b C hC => .inl ⟨hC, keep b (hg.ltZ (by rw [hC]; simp))⟩) (fun b o ho => .inl ⟨ho, keep b (hg.ltM (by rw [ho]; simp)), fun hp => .inl hp, rfl⟩), hr.flat (hf p hK), hk p hK⟩

/-- Frozen for good. -/
theorem CallP.freeze {P : Program} {g : FuncId} {args : List PV} {μ : Mem} {K K' : PV → Mem → Prop} (h : CallP P g args μ K) (hk : ∀ v μ', K v μ' → ∃ (v' : PV) (μ'' : Mem) (bs : List Nat), (∀ Z u r, Good Z u μ' → Rep Z v r → Rep (Zbor Z u fun b => if b ∈ bs then μ' b else none) v' r) ∧ (∀ b o, μ'' b = some o → μ' b = some o ∧ b ∉ bs) ∧ K' v' μ'') : CallP P g args μ K' := fun Z u vs hg hw ha => by
  obtain ⟨hc, h⟩ := h Z u vs hg hw ha
  refine ⟨hc, h.mono' fun v lo w' _ _ hp => ?_⟩
  obtain ⟨Z', μ', p, e, g', hr, hK⟩ := hp
  obtain ⟨v', μ'', bs, h1, h2, h3⟩ := hk p μ' hK
  have gs : Good Z' (u.ret lo w') (fun b => if b ∈ bs then μ' b else none) := g'.sub fun b o hb => by
    by_cases hm : b ∈ bs
    · rw [if_pos hm] at hb; exact hb
    · rw [if_neg hm] at hb; cases hb
  have hzb : ∀ b, b ∉ bs → Zbor Z' (u.ret lo w') (fun b => if b ∈ bs then μ' b else none) b = Z' b := fun b hb => by
    unfold Zbor; simp [hb, cellsOf]
  refine ⟨Zbor Z' (u.ret lo w') (fun b => if b ∈ bs then μ' b else none), μ'', v', ⟨e.le.trans (Zbor_le gs), fun b C hC hn => ?_, fun b hb => ?_, fun b hb => ?_, e.lt⟩, g'.go (Zbor_le gs) (fun b C hC => ?_) (fun b o ho => ?_), h1 Z' _ _ g' hr, h3⟩
  · have h4 := e.zs b C hC hn
    obtain ⟨C', h5, _⟩ := Zbor_le gs b C h4
    unfold Zbor at h5 ⊢
    split
    · rename_i cs hm
      have hz := (cellsOf_ok gs hm).1
      rw [h4] at hz; cases hz
    · exact h4
  · by_cases hm : b ∈ bs
    · cases hx : μ' b with
      | none => unfold Zbor at hb; simp [hm, hx, cellsOf] at hb; exact e.zn b hb
      | some o => exact .inr (e.mn b (by rw [hx]; simp))
    · rw [hzb b hm] at hb; exact e.zn b hb
  · cases hx : μ'' b with
    | none => exact absurd hx hb
    | some o => exact e.mn b (by rw [(h2 b o hx).1]; simp)
  · by_cases hm : b ∈ bs
    · unfold Zbor at hC
      split at hC
      · split at hC
        · rename_i A T f hA; cases hC; exact .inr ⟨A, T, f, hA, List.prefix_refl _⟩
        · cases hC
      · exact .inl ⟨hC, rfl⟩
    · rw [hzb b hm] at hC; exact .inl ⟨hC, rfl⟩
  · obtain ⟨h4, h5⟩ := h2 b o ho
    exact .inl ⟨h4, rfl, id, hzb b h5⟩

/-! ### rows -/
theorem atRow {T : Type} {pv : T → List PV} {l : List T} {k : Nat} (hk : k < l.length) : (l.map pv)[Int.toNat (k : Int)]? = some (pv l[k]) := by
  rw [Int.toNat_natCast, List.getElem?_map, List.getElem?_eq_getElem hk]; rfl

/-! ### the world at the start -/
def Zall (w : World) : Fz := fun b => match w.heap[b]? with | some (.cells A _ _) => some A.toList | _ => none

theorem Zall_at {w : World} {b : Nat} {A : Array Value} {T : TypeId} {f : Nat × Nat} (h : w.heap[b]? = some (.cells A T f)) : Zall w b = some A.toList := by simp [Zall, h]

theorem Zall_good (w : World) : Good (Zall w) ⟨w, fun _ => False⟩ M0 := by
  refine ⟨fun b C hC => ?_, fun b o h => by cases h⟩
  unfold Zall at hC
  split at hC
  · rename_i A T f h
    cases hC
    exact ⟨A, T, f, h, List.prefix_refl _⟩
  · cases hC

/-- The last step: the machine's call itself. -/
theorem PureK.calls {P : Program} {g : FuncId} {args : List PV} {K : PV → Prop} {w : World} {vs : List Value} (h : PureK P g args K) (ha : Reps (Zall w) args vs) : Calls P g vs.toArray w fun e w' => (∃ v p Z, e = .returned v ∧ Rep Z p v ∧ K p) ∧ Below w.heap.size w w' := by
  obtain ⟨_, F, hF, hcall⟩ := h (Zall w) ⟨w, fun _ => False⟩ vs (Zall_good w) (fun _ h => h.elim) ha
  refine (hcall w (Sees.refl w)).mono fun e w' ⟨v, w2, he, ho, Z', μ', p, _, _, hr, hK⟩ => ⟨⟨v, p, Z', he, hr, hK⟩, ?_⟩
  exact ⟨ho.mod.os, ho.mod.tape, ho.mod.output, ho.mod.size, fun b hb => ho.mod.keep b hb fun hf => hF b hf⟩

end Go.Eng
