import Derived.Test.YtdiimonfmdbclaaEngU
/-
  Plain values: slices that nobody writes any more are lists; what can still be written is a small memory of its own.
-/
namespace Go.Eng
open Go.RowKit

/-- What is known of a list's place: nothing; that it has no room behind it; that it is nil; that it is the beginning of a block that may be gone on with. -/
inductive Fl where
  | sh
  | nr
  | nil
  | tip (b c : Nat)

inductive PV where
  | raw (v : Value)
  | list (sz : Nat) (fl : Fl) (rows : List (List PV))
  | fptr (row : List PV) (o : Nat)
  | fn (f : Fn) (first caps : List PV)
  | agg (cs : List PV)
  | tup (vs : List PV)
  | iface (t : TypeId) (p : PV)
  | box (k o : Nat)
  | poison

@[reducible] def pI (i : Int) : PV := .raw (.int .i64 i)
@[reducible] def pB (b : Bool) : PV := .raw (.bool b)
@[reducible] def pS (s : ByteArray) : PV := .raw (.string s)
@[reducible] def pP (b o : Nat) : PV := .raw (.pointer (some ⟨b, o, none⟩))

/-- Fits into one cell. -/
def PV.cell : PV → Bool
  | .raw _ | .list .. | .fptr .. | .fn .. | .iface .. => true
  | _ => false

/-- Can be handed on. -/
def PV.ok : PV → Bool
  | .agg _ => true
  | p => p.cell

/-- What is frozen: of each block a beginning. -/
abbrev Fz := Nat → Option (List Value)

def FlOk : Fl → Option Addr → Nat → Nat → Prop
  | .sh, _, _, _ => True
  | .nr, _, n, c => c = n
  | .nil, a, n, c => a = none ∧ n = 0 ∧ c = 0
  | .tip b c', a, _, c => a = some ⟨b, 0, none⟩ ∧ c = c'

inductive Rep (Z : Fz) : PV → Value → Prop where
  | raw (v : Value) (h : plain v = true) (h1 : one v = true) : Rep Z (.raw v) v
  | list (sz : Nat) (fl : Fl) (rows : List (List PV)) (a : Option Addr) (n c b o : Nat) (C : List Value) (g : Nat → Nat → Value) (hn : rows.length = n) (hc : n ≤ c) (hs : c = 0 ∨ noSpot a) (hr : ∀ r ∈ rows, r.length = sz)
      (ha : n ≠ 0 → a = some ⟨b, o, none⟩ ∧ Z b = some C) (hg : ∀ i j : Nat, i < n → j < sz → C[o + i * sz + j]? = some (g i j))
      (hk : ∀ (i j : Nat) row p, rows[i]? = some row → row[j]? = some p → p.cell = true) (hp : ∀ (i j : Nat) row p, rows[i]? = some row → row[j]? = some p → Rep Z p (g i j)) (hf : FlOk fl a n c) : Rep Z (.list sz fl rows) (.slice a n c)
  | fptr (row : List PV) (o b off : Nat) (C : List Value) (g : Nat → Value) (hz : Z b = some C) (hg : ∀ j : Nat, j < row.length → C[off + j]? = some (g j)) (hk : ∀ (j : Nat) p, row[j]? = some p → p.cell = true) (hp : ∀ (j : Nat) p, row[j]? = some p → Rep Z p (g j)) : Rep Z (.fptr row o) (.pointer (some ⟨b, off + o, none⟩))
  | fn (f : Fn) (first caps : List PV) (fv cv : List Value) (h1 : fv.length = first.length) (h2 : cv.length = caps.length) (kf : ∀ p ∈ first, p.ok = true) (kc : ∀ p ∈ caps, p.ok = true) (hf : ∀ (i : Nat) p v, first[i]? = some p → fv[i]? = some v → Rep Z p v) (hc : ∀ (i : Nat) p v, caps[i]? = some p → cv[i]? = some v → Rep Z p v) : Rep Z (.fn f first caps) (.func f fv.toArray cv.toArray)
  | agg (cs : List PV) (vs : List Value) (hl : vs.length = cs.length) (hk : ∀ p ∈ cs, p.cell = true) (h : ∀ (i : Nat) p v, cs[i]? = some p → vs[i]? = some v → Rep Z p v) : Rep Z (.agg cs) (.agg vs.toArray)
  | tup (ps : List PV) (vs : List Value) (hl : vs.length = ps.length) (hk : ∀ p ∈ ps, p.ok = true) (h : ∀ (i : Nat) p v, ps[i]? = some p → vs[i]? = some v → Rep Z p v) : Rep Z (.tup ps) (.tuple vs.toArray)
  | iface (t : TypeId) (p : PV) (v : Value) (hk : p.ok = true) (h : Rep Z p v) : Rep Z (.iface t p) (.iface t v)
  | box (k o : Nat) : Rep Z (.box k o) (fake k o)
  | poison (v : Value) : Rep Z .poison v

/-- More is frozen. -/
def Fz.le (Z Z' : Fz) : Prop := ∀ b C, Z b = some C → ∃ C', Z' b = some C' ∧ C <+: C'

theorem Fz.le.refl (Z : Fz) : Z.le Z := fun _ C h => ⟨C, h, List.prefix_refl C⟩
theorem Fz.le.trans {A B C : Fz} (h : A.le B) (k : B.le C) : A.le C := fun b L hL => by
  obtain ⟨L', h1, h2⟩ := h b L hL
  obtain ⟨L'', h3, h4⟩ := k b L' h1
  exact ⟨L'', h3, h2.trans h4⟩

theorem prefix_get {A B : List Value} (h : A <+: B) {i : Nat} {v : Value} (hv : A[i]? = some v) : B[i]? = some v := by
  obtain ⟨t, rfl⟩ := h
  rw [List.getElem?_append_left (List.getElem?_eq_some_iff.1 hv).1]; exact hv

theorem Rep.mono {Z Z' : Fz} (hz : Z.le Z') {p : PV} {v : Value} (h : Rep Z p v) : Rep Z' p v := by
  induction h with
  | raw v h h1 => exact .raw v h h1
  | list sz fl rows a n c b o C g hn hc hs hr ha hg hk hp hf ih =>
    by_cases h0 : n = 0
    · exact .list sz fl rows a n c b o C g hn hc hs hr (fun h => absurd h0 h) hg hk ih hf
    · obtain ⟨C', h1, h2⟩ := hz b C (ha h0).2
      exact .list sz fl rows a n c b o C' g hn hc hs hr (fun _ => ⟨(ha h0).1, h1⟩) (fun i j hi hj => prefix_get h2 (hg i j hi hj)) hk ih hf
  | fptr row o b off C g hC hg hk hp ih =>
    obtain ⟨C', h1, h2⟩ := hz b C hC
    exact .fptr row o b off C' g h1 (fun j hj => prefix_get h2 (hg j hj)) hk ih
  | fn f first caps fv cv h1 h2 kf kc hf hc ih1 ih2 => exact .fn f first caps fv cv h1 h2 kf kc ih1 ih2
  | agg cs vs hl hk h ih => exact .agg cs vs hl hk ih
  | tup cs vs hl hk h ih => exact .tup cs vs hl hk ih
  | iface t p v hk _ ih => exact .iface t p v hk ih
  | box k o => exact .box k o
  | poison v => exact .poison v

theorem Rep.cell {Z : Fz} {p : PV} {v : Value} (h : Rep Z p v) (hc : p.cell = true) : plain v = true ∧ one v = true := by
  cases h <;> first | (constructor <;> assumption) | exact ⟨rfl, rfl⟩ | (simp [PV.cell] at hc)

theorem Rep.plain {Z : Fz} {p : PV} {v : Value} (h : Rep Z p v) (hc : p.ok = true) : plain v = true := by
  cases h <;> first | assumption | rfl | (simp [PV.ok, PV.cell] at hc)

/-- One by one. -/
def Reps (Z : Fz) (ps : List PV) (vs : List Value) : Prop := vs.length = ps.length ∧ ∀ (i : Nat) p v, ps[i]? = some p → vs[i]? = some v → p.ok = true ∧ Rep Z p v
def RepC (Z : Fz) (ps : List PV) (vs : List Value) : Prop := vs.length = ps.length ∧ ∀ (i : Nat) p v, ps[i]? = some p → vs[i]? = some v → p.cell = true ∧ Rep Z p v

theorem Reps.mono {Z Z' : Fz} (hz : Z.le Z') {ps : List PV} {vs : List Value} (h : Reps Z ps vs) : Reps Z' ps vs := ⟨h.1, fun i p v a b => ⟨(h.2 i p v a b).1, (h.2 i p v a b).2.mono hz⟩⟩
theorem RepC.mono {Z Z' : Fz} (hz : Z.le Z') {ps : List PV} {vs : List Value} (h : RepC Z ps vs) : RepC Z' ps vs := ⟨h.1, fun i p v a b => ⟨(h.2 i p v a b).1, (h.2 i p v a b).2.mono hz⟩⟩
theorem PV.ok_cell {p : PV} (h : p.cell = true) : p.ok = true := by cases p <;> simp_all [PV.ok, PV.cell]
theorem RepC.reps {Z : Fz} {ps : List PV} {vs : List Value} (h : RepC Z ps vs) : Reps Z ps vs := ⟨h.1, fun i p v a b => ⟨PV.ok_cell (h.2 i p v a b).1, (h.2 i p v a b).2⟩⟩
theorem Reps.nil (Z : Fz) : Reps Z [] [] := ⟨rfl, by simp⟩
theorem RepC.nil (Z : Fz) : RepC Z [] [] := ⟨rfl, by simp⟩
theorem Reps.cons {Z : Fz} {p : PV} {ps : List PV} {v : Value} {vs : List Value} (hk : p.ok = true) (h : Rep Z p v) (hs : Reps Z ps vs) : Reps Z (p :: ps) (v :: vs) :=
  ⟨by simp [hs.1], fun i q w a b => by
    cases i with
    | zero => simp only [List.getElem?_cons_zero, Option.some.injEq] at a b; subst a; subst b; exact ⟨hk, h⟩
    | succ i => simp only [List.getElem?_cons_succ] at a b; exact hs.2 i q w a b⟩
theorem RepC.cons {Z : Fz} {p : PV} {ps : List PV} {v : Value} {vs : List Value} (hk : p.cell = true) (h : Rep Z p v) (hs : RepC Z ps vs) : RepC Z (p :: ps) (v :: vs) :=
  ⟨by simp [hs.1], fun i q w a b => by
    cases i with
    | zero => simp only [List.getElem?_cons_zero, Option.some.injEq] at a b; subst a; subst b; exact ⟨hk, h⟩
    | succ i => simp only [List.getElem?_cons_succ] at a b; exact hs.2 i q w a b⟩
theorem Reps.inv {Z : Fz} {p : PV} {ps : List PV} {vs : List Value} (h : Reps Z (p :: ps) vs) : ∃ v vs', vs = v :: vs' ∧ p.ok = true ∧ Rep Z p v ∧ Reps Z ps vs' := by
  obtain ⟨hl, h⟩ := h
  cases vs with
  | nil => simp at hl
  | cons v vs => exact ⟨v, vs, rfl, (h 0 p v rfl rfl).1, (h 0 p v rfl rfl).2, by simpa using hl, fun i q w a b => h (i + 1) q w (by simpa using a) (by simpa using b)⟩
theorem RepC.inv {Z : Fz} {p : PV} {ps : List PV} {vs : List Value} (h : RepC Z (p :: ps) vs) : ∃ v vs', vs = v :: vs' ∧ p.cell = true ∧ Rep Z p v ∧ RepC Z ps vs' := by
  obtain ⟨hl, h⟩ := h
  cases vs with
  | nil => simp at hl
  | cons v vs => exact ⟨v, vs, rfl, (h 0 p v rfl rfl).1, (h 0 p v rfl rfl).2, by simpa using hl, fun i q w a b => h (i + 1) q w (by simpa using a) (by simpa using b)⟩
theorem Reps.inv0 {Z : Fz} {vs : List Value} (h : Reps Z [] vs) : vs = [] := List.eq_nil_of_length_eq_zero h.1
theorem RepC.inv0 {Z : Fz} {vs : List Value} (h : RepC Z [] vs) : vs = [] := List.eq_nil_of_length_eq_zero h.1
theorem Reps.append {Z : Fz} {ps qs : List PV} {vs ws : List Value} (h : Reps Z ps vs) (k : Reps Z qs ws) : Reps Z (ps ++ qs) (vs ++ ws) := by
  induction ps generalizing vs with
  | nil => rw [h.inv0]; exact k
  | cons p ps ih => obtain ⟨v, vs', rfl, h1, h2, h3⟩ := h.inv; exact Reps.cons h1 h2 (ih h3)
theorem RepC.append {Z : Fz} {ps qs : List PV} {vs ws : List Value} (h : RepC Z ps vs) (k : RepC Z qs ws) : RepC Z (ps ++ qs) (vs ++ ws) := by
  induction ps generalizing vs with
  | nil => rw [h.inv0]; exact k
  | cons p ps ih => obtain ⟨v, vs', rfl, h1, h2, h3⟩ := h.inv; exact RepC.cons h1 h2 (ih h3)
theorem RepC.take {Z : Fz} {ps : List PV} {vs : List Value} (h : RepC Z ps vs) (n : Nat) : RepC Z (ps.take n) (vs.take n) :=
  ⟨by simp [h.1], fun i p v a b => by
    rw [List.getElem?_take] at a b
    split at a
    · rename_i hi; rw [if_pos hi] at b; exact h.2 i p v a b
    · cases a⟩
theorem RepC.drop {Z : Fz} {ps : List PV} {vs : List Value} (h : RepC Z ps vs) (n : Nat) : RepC Z (ps.drop n) (vs.drop n) :=
  ⟨by simp [h.1], fun i p v a b => by rw [List.getElem?_drop] at a b; exact h.2 _ p v a b⟩
theorem RepC.get {Z : Fz} {ps : List PV} {vs : List Value} (h : RepC Z ps vs) {i : Nat} {p : PV} (hi : ps[i]? = some p) : ∃ v, vs[i]? = some v ∧ p.cell = true ∧ Rep Z p v := by
  have hlt : i < ps.length := (List.getElem?_eq_some_iff.1 hi).1
  have hlt' : i < vs.length := by rw [h.1]; exact hlt
  exact ⟨vs[i], List.getElem?_eq_getElem hlt', h.2 i p _ hi (List.getElem?_eq_getElem hlt')⟩
theorem Reps.get {Z : Fz} {ps : List PV} {vs : List Value} (h : Reps Z ps vs) {i : Nat} {p : PV} (hi : ps[i]? = some p) : ∃ v, vs[i]? = some v ∧ p.ok = true ∧ Rep Z p v := by
  have hlt : i < ps.length := (List.getElem?_eq_some_iff.1 hi).1
  have hlt' : i < vs.length := by rw [h.1]; exact hlt
  exact ⟨vs[i], List.getElem?_eq_getElem hlt', h.2 i p _ hi (List.getElem?_eq_getElem hlt')⟩
theorem RepC.plains {Z : Fz} {ps : List PV} {vs : List Value} (h : RepC Z ps vs) : ∀ v ∈ vs, Eng.plain v = true ∧ one v = true := by
  intro v hv
  obtain ⟨i, hi⟩ := List.mem_iff_getElem?.1 hv
  have hlt : i < ps.length := by rw [← h.1]; exact (List.getElem?_eq_some_iff.1 hi).1
  have := h.2 i ps[i] v (List.getElem?_eq_getElem hlt) hi
  exact this.2.cell this.1
theorem Reps.plains {Z : Fz} {ps : List PV} {vs : List Value} (h : Reps Z ps vs) : ∀ v ∈ vs, Eng.plain v = true := by
  intro v hv
  obtain ⟨i, hi⟩ := List.mem_iff_getElem?.1 hv
  have hlt : i < ps.length := by rw [← h.1]; exact (List.getElem?_eq_some_iff.1 hi).1
  have := h.2 i ps[i] v (List.getElem?_eq_getElem hlt) hi
  exact this.2.plain this.1

/-- The cells of a value. -/
def PV.cells : PV → List PV
  | .agg cs => cs
  | p => [p]

theorem Rep.cells {Z : Fz} {p : PV} {v : Value} (h : Rep Z p v) (hk : p.ok = true) : RepC Z p.cells v.cells.toList := by
  have key : p.cell = true → v.cells = #[v] → p.cells = [p] → RepC Z p.cells v.cells.toList := fun h1 h2 h3 => by rw [h2, h3]; exact RepC.cons h1 h (RepC.nil Z)
  cases h with
  | agg cs vs hl hk2 h => exact ⟨hl, fun i p v a b => ⟨hk2 p (List.mem_of_getElem? a), h i p v a b⟩⟩
  | raw v h1 h2 => exact key rfl (by cases v <;> first | rfl | (simp [one] at h2)) rfl
  | list => exact key rfl rfl rfl
  | fptr => exact key rfl rfl rfl
  | fn => exact key rfl rfl rfl
  | iface => exact key rfl rfl rfl
  | tup ps vs hl h => simp [PV.ok, PV.cell] at hk
  | box k o => simp [PV.ok, PV.cell] at hk
  | poison v => simp [PV.ok, PV.cell] at hk

/-- One by one, whatever they are. -/
def RepM (Z : Fz) (ps : List PV) (vs : List Value) : Prop := vs.length = ps.length ∧ ∀ (i : Nat) p v, ps[i]? = some p → vs[i]? = some v → Rep Z p v

/-- What is there beside: cells; a block whose beginning is frozen, that may be gone on with from n on (it has room for m); a record of the machine; cells that are not written for the time being. -/
inductive Ob where
  | cells (T : TypeId) (cs : List PV)
  | tip (n m : Nat)
  | obj (o : Obj) (F : Nat → PV) (S : Nat → Value)
  | ro (T : TypeId) (cs : List PV)

/-- May it be written? -/
def Ob.rw : Ob → Bool
  | .ro .. => false
  | _ => true

abbrev Mem := Nat → Option Ob
def M0 : Mem := fun _ => none
def Mem.set (μ : Mem) (b : Nat) (o : Option Ob) : Mem := fun c => if c = b then o else μ c
/-- Two memories side by side. -/
def Mem.or (μ ν : Mem) : Mem := fun b => match μ b with | some o => some o | Option.none => ν b
def Mem.sep (μ ν : Mem) : Prop := ∀ b, μ b = Option.none ∨ ν b = Option.none

@[simp] theorem Mem.set_same (μ : Mem) (b : Nat) (o : Option Ob) : μ.set b o b = o := by simp [Mem.set]
theorem Mem.set_ne (μ : Mem) {b c : Nat} (o : Option Ob) (h : c ≠ b) : μ.set b o c = μ c := by simp [Mem.set, h]

def ObOk (Z : Fz) (u : UW) (b : Nat) : Ob → Prop
  | .cells T cs => Z b = none ∧ ∃ A : Array Value, u.heap[b]? = some (.cells A T (0, 0)) ∧ RepM Z cs A.toList
  | .tip n m => (∃ C, Z b = some C ∧ C.length = n) ∧ ∃ (A : Array Value) (T : TypeId), u.heap[b]? = some (.cells A T (0, 0)) ∧ m ≤ A.size
  | .obj o F S => Z b = none ∧ u.heap[b]? = some o ∧ ∀ t, Rep Z (F t) (S t)
  | .ro T cs => Z b = none ∧ ∃ A : Array Value, u.heap[b]? = some (.cells A T (0, 0)) ∧ RepM Z cs A.toList

/-- The frozen, what can be written, and the engine's world. -/
structure Good (Z : Fz) (u : UW) (μ : Mem) : Prop where
  zok : ∀ b C, Z b = some C → ∃ A T f, u.heap[b]? = some (.cells A T f) ∧ C <+: A.toList
  mem : ∀ b o, μ b = some o → (o.rw = true → u.pub b) ∧ ObOk Z u b o

theorem ObOk.lt {Z : Fz} {u : UW} {b : Nat} {o : Ob} (h : ObOk Z u b o) : b < u.heap.size := by
  cases o with
  | cells T cs => obtain ⟨_, A, h, _⟩ := h; exact (Array.getElem?_eq_some_iff.1 h).1
  | tip n m => obtain ⟨_, A, T, h, _⟩ := h; exact (Array.getElem?_eq_some_iff.1 h).1
  | obj o F S => exact (Array.getElem?_eq_some_iff.1 h.2.1).1
  | ro T cs => obtain ⟨_, A, h, _⟩ := h; exact (Array.getElem?_eq_some_iff.1 h).1

theorem Good.ltZ {Z : Fz} {u : UW} {μ : Mem} (h : Good Z u μ) {b : Nat} (hb : Z b ≠ none) : b < u.heap.size := by
  cases hz : Z b with
  | none => exact absurd hz hb
  | some C => obtain ⟨A, T, f, h, _⟩ := h.zok b C hz; exact (Array.getElem?_eq_some_iff.1 h).1

theorem Good.ltM {Z : Fz} {u : UW} {μ : Mem} (h : Good Z u μ) {b : Nat} (hb : μ b ≠ none) : b < u.heap.size := by
  cases hz : μ b with
  | none => exact absurd hz hb
  | some o => exact (h.mem b o hz).2.lt

/-- From one moment to a later one: N blocks were there. -/
structure Ext (Z : Fz) (μ : Mem) (N : Nat) (Z' : Fz) (μ' : Mem) : Prop where
  le : Z.le Z'
  zs : ∀ b C, Z b = some C → μ b = none → Z' b = some C
  zn : ∀ b, Z' b ≠ none → Z b ≠ none ∨ μ b ≠ none ∨ N ≤ b
  mn : ∀ b, μ' b ≠ none → μ b ≠ none ∨ N ≤ b
  lt : ∀ b, Z b ≠ none → b < N

theorem Good.ext {Z : Fz} {u : UW} {μ : Mem} (h : Good Z u μ) : Ext Z μ u.heap.size Z μ := ⟨Fz.le.refl _, fun _ _ h _ => h, fun _ h => .inl h, fun _ h => .inl h, fun _ h' => h.ltZ h'⟩

theorem Ext.trans {Z Z' Z'' : Fz} {μ μ' μ'' : Mem} {N N' : Nat} (h : Ext Z μ N Z' μ') (k : Ext Z' μ' N' Z'' μ'') (hN : N ≤ N') : Ext Z μ N Z'' μ'' := by
  refine ⟨h.le.trans k.le, fun b C hz hm => ?_, fun b hb => ?_, fun b hb => ?_, h.lt⟩
  · refine k.zs b C (h.zs b C hz hm) ?_
    cases hx : μ' b with
    | none => rfl
    | some o =>
      have hl := h.lt b (by rw [hz]; simp)
      rcases h.mn b (by rw [hx]; simp) with h1 | h1
      · exact absurd hm h1
      · omega
  · rcases k.zn b hb with h1 | h1 | h1
    · exact h.zn b h1
    · exact .inr (h.mn b h1)
    · exact .inr (.inr (by omega))
  · rcases k.mn b hb with h1 | h1
    · exact h.mn b h1
    · exact .inr (by omega)

/-- Something is let go. -/
def Mem.sub (μ' μ : Mem) : Prop := ∀ b o, μ' b = some o → μ b = some o
theorem Good.sub {Z : Fz} {u : UW} {μ μ' : Mem} (h : Good Z u μ) (hs : μ'.sub μ) : Good Z u μ' := ⟨h.zok, fun b o e => h.mem b o (hs b o e)⟩

end Go.Eng
