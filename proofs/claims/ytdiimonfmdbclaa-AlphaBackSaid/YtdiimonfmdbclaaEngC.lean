import Derived.Test.YtdiimonfmdbclaaEngB
/-
  The engine, third part: how the engine's state stands to the machine's.
-/
namespace Go.Eng
open Go.RowKit

theorem Below.toMod {B : Nat} {w w' : World} (h : Below B w w') (hB : w.heap.size ≤ B) (F : Nat → Prop) : Mod F w w' :=
  ⟨h.os, h.tape, h.output, h.size, fun b hb _ => h.block b (by omega)⟩

theorem Mod.trans {F : Nat → Prop} {a b c : World} (h : Mod F a b) (k : Mod F b c) : Mod F a c :=
  ⟨k.os.trans h.os, k.tape.trans h.tape, k.output.trans h.output, Nat.le_trans h.size k.size,
    fun i hi hn => (k.keep i (Nat.lt_of_lt_of_le hi h.size) hn).trans (h.keep i hi hn)⟩

/-- What stays fixed through a function's run: the world at its entry, the blocks that it may write. -/
structure Ctx where
  n : Nat
  w0 : World
  w1 : World
  F : Nat → Prop
  ro : Option (Nat × Loop) := none

/-- A block that the engine does not know: a loop's record, the deferred calls of a loop's rounds. -/
structure Hid (u : UW) (wa : World) (b : Nat) (o : Obj) : Prop where
  at_ : wa.heap[b]? = some o
  other : o.isCells = false
  pub : ¬ u.pub b
  mask : b < u.heap.size → u.heap[b]? = some masked

theorem Hid.world {u u' : UW} {wa wb : World} {F : Nat → Prop} {b : Nat} {o : Obj} (h : Hid u wa b o) (hF : ∀ b, F b → u.pub b) (hm : Mod F wa wb) (hum : Mod F u.toWorld u'.toWorld)
    (hhid : ∀ b, u.heap.size ≤ b → b < wa.heap.size → b < u'.heap.size → u'.heap[b]? = some masked) (hold : ∀ b, u'.pub b → b < wa.heap.size → u.pub b) : Hid u' wb b o := by
  have hlt : b < wa.heap.size := (Array.getElem?_eq_some_iff.1 h.at_).1
  refine ⟨(hm.keep _ hlt (fun hf => h.pub (hF _ hf))).trans h.at_, h.other, fun hp => h.pub (hold _ hp hlt), fun hl => ?_⟩
  by_cases hu : b < u.heap.size
  · rw [hum.keep _ hu (fun hf => h.pub (hF _ hf))]; exact h.mask hu
  · exact hhid _ (by omega) hlt hl

/-- The marks of loops over functions among the deferred calls. -/
structure Marks (C : Ctx) (ds : List Deferred) (wa : World) (u : UW) : Prop where
  each : ∀ d ∈ ds, ∃ r, d = { target := .collected r, args := #[] } ∧ C.w1.heap.size ≤ r ∧ Hid u wa r (.deferred (some []))
  nodup : ds.Nodup

structure Inv (C : Ctx) (a : Act) (wa : World) (st : St) (u : UW) (θ : Nat → Nat) : Prop where
  size : a.tmps.size = C.n
  n_le : C.n ≤ 65536
  defers : Marks C a.defers wa u
  round : ∀ l r, C.ro = some (l, r) → Hid u wa l (.loop r)
  slots : ∀ t, t < C.n → R θ (st.σ t) (a.tmps.getD t undef)
  below : Sees u.toWorld wa
  boxes : ∀ k m, (k, m) ∈ st.D → m ≤ 65536 ∧ ∃ c T, wa.heap[θ k]? = some (.cells c T (0, 0)) ∧ c.size = m ∧ (∀ j, j < m → R θ (st.σ (gx k j)) (c.getD j undef)) ∧ ¬ u.pub (θ k) ∧ C.w1.heap.size ≤ θ k ∧ (θ k < u.heap.size → u.heap[θ k]? = some masked)
  inj : ∀ k m k' m', (k, m) ∈ st.D → (k', m') ∈ st.D → θ k = θ k' → k = k' ∧ m = m'
  fakes : ∀ t, t < C.n → ∀ k o, st.σ t = fake k o → ∃ m, (k, m) ∈ st.D
  ghosts : ∀ k m, (k, m) ∈ st.D → ∀ j, j < m → ∀ k' o, st.σ (gx k j) ≠ fake k' o
  pubs : ∀ b, u.pub b → b < wa.heap.size
  mod : Mod C.F C.w1 wa
  pubF : ∀ b, u.pub b → b < C.w1.heap.size → C.F b
  umod : Mod C.F C.w0 u.toWorld
  w01 : C.w0.heap.size ≤ C.w1.heap.size
  hid : ∀ b, C.w0.heap.size ≤ b → b < C.w1.heap.size → b < u.heap.size → u.heap[b]? = some masked
  F0 : ∀ b, C.F b → b < C.w0.heap.size

theorem gx_inj {k j k' j' : Nat} (hj : j < 65536) (hj' : j' < 65536) (h : gx k j = gx k' j') : k = k' ∧ j = j' := by
  unfold gx at h; omega
theorem gx_ge (k j : Nat) : 65536 ≤ gx k j := by unfold gx; omega

theorem wrG_slot {σ : Fr} {k : Nat} : ∀ (vs : List Value) (o t : Nat), t < 65536 → wrG σ k o vs t = σ t := by
  intro vs
  induction vs generalizing σ with
  | nil => intro o t _; rfl
  | cons v vs ih =>
    intro o t ht
    simp only [wrG]
    rw [ih _ _ ht, upd_ne]
    have := gx_ge k o; omega

theorem wrG_other {σ : Fr} {k : Nat} : ∀ (vs : List Value) (o i : Nat), (∀ j, o ≤ j → j < o + vs.length → i ≠ gx k j) → wrG σ k o vs i = σ i := by
  intro vs
  induction vs generalizing σ with
  | nil => intro o i _; rfl
  | cons v vs ih =>
    intro o i h
    simp only [wrG]
    rw [ih _ _ (fun j h1 h2 => h j (by omega) (by simp; omega)), upd_ne]
    exact h o (by omega) (by simp)

theorem wrG_at {σ : Fr} {k : Nat} : ∀ (vs : List Value) (o j : Nat), j < vs.length → o + vs.length ≤ 65536 → wrG σ k o vs (gx k (o + j)) = vs.getD j undef := by
  intro vs
  induction vs generalizing σ with
  | nil => intro o j h; simp at h
  | cons v vs ih =>
    intro o j h hl
    simp only [wrG]
    simp only [List.length_cons] at h hl
    cases j with
    | zero =>
      rw [wrG_other]
      · simp
      · intro i h1 h2 he
        have := (gx_inj (by omega) (by omega) he).2
        omega
    | succ j =>
      have := ih (σ := upd σ (gx k o) v) (o + 1) j (by omega) (by omega)
      rw [show o + (j + 1) = o + 1 + j from by omega, this]
      simp

/-- A state that knows less. -/
structure Weak (n : Nat) (s t : St) : Prop where
  slot : ∀ i, i < n → s.σ i = poison ∨ s.σ i = t.σ i
  D : ∀ k m, (k, m) ∈ s.D → (k, m) ∈ t.D ∧ ∀ j, j < m → s.σ (gx k j) = poison ∨ s.σ (gx k j) = t.σ (gx k j)
  fakes : ∀ i, i < n → ∀ k o, s.σ i = fake k o → (∃ m, (k, m) ∈ t.D) → ∃ m, (k, m) ∈ s.D

theorem R_poison (θ : Nat → Nat) (r : Value) : R θ poison r := trivial

theorem Inv.weak {C : Ctx} {a : Act} {wa : World} {s t : St} {u : UW} {θ : Nat → Nat} (h : Inv C a wa t u θ) (hw : Weak C.n s t) : Inv C a wa s u θ where
  size := h.size
  n_le := h.n_le
  defers := h.defers
  round := h.round
  slots := fun i hi => by
    rcases hw.slot i hi with e | e
    · rw [e]; exact R_poison _ _
    · rw [e]; exact h.slots i hi
  below := h.below
  boxes := fun k m hk => by
    obtain ⟨hk', hg⟩ := hw.D k m hk
    obtain ⟨hm, c, T, h1, h2, h3, h4, h5⟩ := h.boxes k m hk'
    refine ⟨hm, c, T, h1, h2, fun j hj => ?_, h4, h5⟩
    rcases hg j hj with e | e
    · rw [e]; exact R_poison _ _
    · rw [e]; exact h3 j hj
  inj := fun k m k' m' h1 h2 => h.inj k m k' m' (hw.D k m h1).1 (hw.D k' m' h2).1
  fakes := fun i hi k o e => by
    refine hw.fakes i hi k o e ?_
    rcases hw.slot i hi with e' | e'
    · rw [e] at e'; cases e'
    · exact h.fakes i hi k o (e' ▸ e)
  ghosts := fun k m hk j hj k' o e => by
    rcases (hw.D k m hk).2 j hj with e' | e'
    · rw [e] at e'; cases e'
    · exact h.ghosts k m (hw.D k m hk).1 j hj k' o (e' ▸ e)
  pubs := h.pubs
  mod := h.mod
  pubF := h.pubF
  umod := h.umod
  w01 := h.w01
  hid := h.hid
  F0 := h.F0

theorem getD_set (a : Array Value) (d t : Nat) (r : Value) (h : d < a.size) : (a.setIfInBounds d r).getD t undef = if t = d then r else a.getD t undef := by
  by_cases e : t = d
  · subst e; simp [h]
  · rw [if_neg e]; simp [Ne.symm e]

theorem put_tmps_size (a : Act) (d : Option Nat) (r : Value) : (a.put d r).tmps.size = a.tmps.size := by cases d <;> simp [Act.put]
theorem put_defers (a : Act) (d : Option Nat) (r : Value) : (a.put d r).defers = a.defers := by cases d <;> rfl

/-- A slot is set. -/
theorem Inv.fin {C : Ctx} {a : Act} {wa : World} {st : St} {u : UW} {θ : Nat → Nat} (h : Inv C a wa st u θ) (d : Option Nat) (hd : ∀ t, d = some t → t < C.n) {v r : Value} (hr : R θ v r)
    (hf : ∀ k o, v = fake k o → ∃ m, (k, m) ∈ st.D) : Inv C (a.put d r) wa { st with σ := put st.σ d v } u θ where
  size := by rw [put_tmps_size]; exact h.size
  n_le := h.n_le
  defers := by rw [put_defers]; exact h.defers
  round := h.round
  slots := fun t ht => by
    cases d with
    | none => exact h.slots t ht
    | some d =>
      simp only [Act.put, put]
      rw [getD_set _ _ _ _ (by rw [h.size]; exact hd d rfl)]
      by_cases e : t = d
      · subst e; simp [hr]
      · rw [if_neg e, upd_ne _ _ e]; exact h.slots t ht
  below := h.below
  boxes := fun k m hk => by
    obtain ⟨hm, c, T, h1, h2, h3, h4, h5⟩ := h.boxes k m hk
    refine ⟨hm, c, T, h1, h2, fun j hj => ?_, h4, h5⟩
    cases d with
    | none => exact h3 j hj
    | some d =>
      simp only [put]
      have := hd d rfl; have := h.n_le; have := gx_ge k j
      rw [upd_ne _ _ (by omega)]
      exact h3 j hj
  inj := h.inj
  fakes := fun t ht k o e => by
    cases d with
    | none => exact h.fakes t ht k o e
    | some d =>
      simp only [put] at e
      by_cases e' : t = d
      · subst e'; rw [upd_same] at e; exact hf k o e
      · rw [upd_ne _ _ e'] at e; exact h.fakes t ht k o e
  ghosts := fun k m hk j hj k' o e => by
    cases d with
    | none => exact h.ghosts k m hk j hj k' o e
    | some d =>
      simp only [put] at e
      have := hd d rfl; have := h.n_le; have := gx_ge k j
      rw [upd_ne _ _ (by omega)] at e
      exact h.ghosts k m hk j hj k' o e
  pubs := h.pubs
  mod := h.mod
  pubF := h.pubF
  umod := h.umod
  w01 := h.w01
  hid := h.hid
  F0 := h.F0

theorem not_fake {v : Value} (h : plain v = true) (k o : Nat) : v ≠ fake k o := by rintro rfl; simp [plain] at h

theorem Inv.finP {C : Ctx} {a : Act} {wa : World} {st : St} {u : UW} {θ : Nat → Nat} (h : Inv C a wa st u θ) (d : Option Nat) (hd : ∀ t, d = some t → t < C.n) {v : Value} (hp : plain v = true) :
    Inv C (a.put d v) wa { st with σ := put st.σ d v } u θ :=
  h.fin d hd (R_refl hp) (fun k o e => absurd e (not_fake hp k o))

/-- The world goes on: of what the engine knows nothing has turned but in blocks that may be written. -/
theorem Inv.world {C : Ctx} {a : Act} {wa : World} {st : St} {u : UW} {θ : Nat → Nat} (h : Inv C a wa st u θ) {wb : World} {u' : UW} {F : Nat → Prop} (hF : ∀ b, F b → u.pub b)
    (hm : Mod F wa wb) (hb : Sees u'.toWorld wb) (hum : Mod F u.toWorld u'.toWorld)
    (hhid : ∀ b, u.heap.size ≤ b → b < wa.heap.size → b < u'.heap.size → u'.heap[b]? = some masked)
    (hp : ∀ b, u'.pub b → b < wb.heap.size) (hold : ∀ b, u'.pub b → b < wa.heap.size → u.pub b) : Inv C a wb st u' θ where
  size := h.size
  n_le := h.n_le
  defers := ⟨fun d hd => let ⟨r, e, hr, hh⟩ := h.defers.each d hd; ⟨r, e, hr, hh.world hF hm hum hhid hold⟩, h.defers.nodup⟩
  round := fun l r e => (h.round l r e).world hF hm hum hhid hold
  slots := h.slots
  below := hb
  boxes := fun k m hk => by
    obtain ⟨hmm, c, T, h1, h2, h3, h4, h5, h6⟩ := h.boxes k m hk
    have hlt : θ k < wa.heap.size := (Array.getElem?_eq_some_iff.1 h1).1
    refine ⟨hmm, c, T, (hm.keep _ hlt (fun hf => h4 (hF _ hf))).trans h1, h2, h3, fun hpub => h4 (hold _ hpub hlt), h5, fun hl => ?_⟩
    by_cases hu : θ k < u.heap.size
    · rw [hum.keep _ hu (fun hf => h4 (hF _ hf))]; exact h6 hu
    · exact hhid _ (by omega) hlt hl
  inj := h.inj
  fakes := h.fakes
  ghosts := h.ghosts
  pubs := hp
  mod := by
    refine ⟨hm.os.trans h.mod.os, hm.tape.trans h.mod.tape, hm.output.trans h.mod.output, Nat.le_trans h.mod.size hm.size, fun b hb hn => ?_⟩
    have hlt : b < wa.heap.size := Nat.lt_of_lt_of_le hb h.mod.size
    rw [hm.keep b hlt (fun hf => hn (h.pubF b (hF _ hf) hb))]
    exact h.mod.keep b hb hn
  pubF := fun b hb hlt => h.pubF b (hold b hb (Nat.lt_of_lt_of_le hlt h.mod.size)) hlt
  umod := by
    refine ⟨hum.os.trans h.umod.os, hum.tape.trans h.umod.tape, hum.output.trans h.umod.output, Nat.le_trans h.umod.size hum.size, fun b hb hn => ?_⟩
    have hlt : b < u.heap.size := Nat.lt_of_lt_of_le hb h.umod.size
    rw [hum.keep b hlt (fun hf => hn (h.pubF b (hF _ hf) (Nat.lt_of_lt_of_le hb h.w01)))]
    exact h.umod.keep b hb hn
  w01 := h.w01
  hid := fun b h1 h2 h3 => by
    by_cases hu : b < u.heap.size
    · by_cases hf : F b
      · have := h.hid b h1 h2 hu
        have hFb := h.pubF b (hF _ hf) h2
        exact absurd (h.F0 b hFb) (by omega)
      · rw [hum.keep b hu hf]; exact h.hid b h1 h2 hu
    · exact hhid b (by omega) (Nat.lt_of_lt_of_le h2 h.mod.size) h3
  F0 := h.F0

theorem Mod.refl (F : Nat → Prop) (w : World) : Mod F w w := ⟨rfl, rfl, rfl, Nat.le_refl _, fun _ _ _ => rfl⟩
theorem Sees.refl (w : World) : Sees w w := ⟨rfl, rfl, rfl, Nat.le_refl _, fun _ _ => .inl rfl⟩

/-- Nothing but the count of draws has turned. -/
theorem Inv.drew {C : Ctx} {a : Act} {wa : World} {st : St} {u : UW} {θ : Nat → Nat} (h : Inv C a wa st u θ) : Inv C a { wa with drawn := wa.drawn + 1 } st u θ :=
  h.world (u' := u) (F := fun _ => False) (fun _ hf => hf.elim) ⟨rfl, rfl, rfl, Nat.le_refl _, fun _ _ _ => rfl⟩ ⟨h.below.os, h.below.tape, h.below.output, h.below.size, h.below.block⟩ (Mod.refl _ _)
    (fun b h1 _ h3 => by omega) h.pubs (fun _ hb _ => hb)

/-- The engine's world behind a new block. -/
def grow (u : World) (wa : World) (o : Obj) : World := { wa with heap := u.heap ++ Array.replicate (wa.heap.size - u.heap.size) masked ++ #[o] }

theorem grow_size {u wa : World} {o : Obj} (h : u.heap.size ≤ wa.heap.size) : (grow u wa o).heap.size = wa.heap.size + 1 := by simp [grow]; omega
theorem grow_old {u wa : World} {o : Obj} {b : Nat} (h : b < u.heap.size) : (grow u wa o).heap[b]? = u.heap[b]? := by
  simp only [grow]
  rw [Array.getElem?_append_left (by simp; omega), Array.getElem?_append_left h]
theorem grow_mid {u wa : World} {o : Obj} {b : Nat} (h1 : u.heap.size ≤ b) (h2 : b < wa.heap.size) : (grow u wa o).heap[b]? = some masked := by
  simp only [grow]
  rw [Array.getElem?_append_left (by simp; omega), Array.getElem?_append_right h1, Array.getElem?_replicate, if_pos (by omega)]
theorem grow_new {u wa : World} {o : Obj} (h : u.heap.size ≤ wa.heap.size) : (grow u wa o).heap[wa.heap.size]? = some o := by
  simp only [grow]
  rw [Array.getElem?_append_right (by simp; omega)]
  have e : wa.heap.size - (u.heap ++ Array.replicate (wa.heap.size - u.heap.size) masked).size = 0 := by simp; omega
  rw [e]; rfl

/-- A block of its own is made. -/
theorem Inv.born {C : Ctx} {a : Act} {wa : World} {st : St} {u : UW} {θ : Nat → Nat} (h : Inv C a wa st u θ) (o : Obj) :
    ∃ w', Born u.toWorld w' wa.heap.size o ∧ Inv C a (wa.alloc o) st (u.born wa.heap.size w') θ := by
  have hB : Below wa.heap.size wa (wa.alloc o) := (Below.refl _ _).alloc (Nat.le_refl _) o
  have hat : (wa.alloc o).heap[wa.heap.size]? = some o := by
    show (wa.heap.push o)[wa.heap.size]? = _
    simp
  have hus := h.below.size
  have hsz : (wa.alloc o).heap.size = wa.heap.size + 1 := by simp
  refine ⟨grow u.toWorld wa o, ⟨⟨h.below.os, h.below.tape, h.below.output, by rw [grow_size hus]; omega, fun k hk => grow_old hk⟩, grow_new hus, hus⟩, ?_⟩
  refine h.world (F := fun _ => False) (fun _ hf => hf.elim) (Below.toMod hB (Nat.le_refl _) _) ?_ ?_ ?_ ?_ ?_
  · refine ⟨rfl, rfl, rfl, ?_, fun b hb => ?_⟩
    · show (grow u.toWorld wa o).heap.size ≤ _
      rw [grow_size hus, hsz]; omega
    · have hb' : b < (grow u.toWorld wa o).heap.size := hb
      rw [grow_size hus] at hb'
      show (grow u.toWorld wa o).heap[b]? = _ ∨ (grow u.toWorld wa o).heap[b]? = _
      by_cases h1 : b < u.heap.size
      · rw [grow_old h1, hB.block b (by omega)]; exact h.below.block b h1
      · by_cases h2 : b < wa.heap.size
        · exact .inr (grow_mid (by omega) h2)
        · obtain rfl : b = wa.heap.size := by omega
          exact .inl (by rw [grow_new hus, hat])
  · exact ⟨h.below.os, h.below.tape, h.below.output, by show _ ≤ (grow u.toWorld wa o).heap.size; rw [grow_size hus]; omega, fun b hb _ => grow_old hb⟩
  · intro b h1 h2 _
    exact grow_mid h1 h2
  · intro b hb
    rcases hb with hb | rfl
    · exact Nat.lt_of_lt_of_le (h.pubs b hb) hB.size
    · omega
  · intro b hb hlt
    rcases hb with hb | rfl
    · exact hb
    · omega

/-- What the code writes, and what it may not. -/
structure Pres (n : Nat) (fz ws : List Nat) (s t : St) : Prop where
  slot : ∀ i, i < n → i ∉ ws → t.σ i = s.σ i
  D : ∀ x, x ∈ s.D → x ∈ t.D
  fz : ∀ k, k ∈ fz → ∀ m, (k, m) ∈ s.D → ∀ j, j < m → t.σ (gx k j) = s.σ (gx k j)

theorem Pres.refl (n : Nat) (fz ws : List Nat) (s : St) : Pres n fz ws s s := ⟨fun _ _ _ => rfl, fun _ h => h, fun _ _ _ _ _ _ => rfl⟩

theorem Pres.trans {n : Nat} {fz ws ws' : List Nat} {a b c : St} (h : Pres n fz ws a b) (k : Pres n fz ws' b c) : Pres n fz (ws ++ ws') a c where
  slot := fun i hi hn => by
    simp only [List.mem_append, not_or] at hn
    rw [k.slot i hi hn.2, h.slot i hi hn.1]
  D := fun x hx => k.D x (h.D x hx)
  fz := fun x hx m hm j hj => by rw [k.fz x hx m (h.D _ hm) j hj, h.fz x hx m hm j hj]

theorem Pres.mono {n : Nat} {fz ws fz' ws' : List Nat} {a b : St} (h : Pres n fz ws a b) (h1 : ∀ x, x ∈ fz' → x ∈ fz) (h2 : ∀ x, x ∈ ws → x ∈ ws') : Pres n fz' ws' a b :=
  ⟨fun i hi hn => h.slot i hi (fun hx => hn (h2 _ hx)), h.D, fun k hk => h.fz k (h1 _ hk)⟩

theorem Pres.fin {n : Nat} {fz : List Nat} (st : St) (d : Option Nat) (hd : ∀ t, d = some t → t < n) (hn : n ≤ 65536) (v : Value) : Pres n fz d.toList st { st with σ := put st.σ d v } where
  slot := fun i _ hni => by
    cases d with
    | none => rfl
    | some d => simp only [Option.toList, List.mem_singleton] at hni; simp only [put]; rw [upd_ne _ _ hni]
  D := fun _ h => h
  fz := fun k _ m _ j _ => by
    cases d with
    | none => rfl
    | some d =>
      simp only [put]
      have := hd d rfl; have := gx_ge k j
      rw [upd_ne _ _ (by omega)]

end Go.Eng
