import Derived.Test.YtfliaomdedfleaaEngU
/-
  The program's things as plain data, and what they are in cells; loops that count.
-/
namespace Go.Eng
open Go.RowKit

theorem withSl_some {b o : Nat} {F : Nat → Nat → Prop} (h : F b o) : withSl (some ⟨b, o, none⟩) F := h

theorem CIf.t {c : Bool} {A B : Prop} (hc : c = true) (h : A) : CIf c A B := by subst hc; exact h
theorem CIf.f {c : Bool} {A B : Prop} (hc : c = false) (h : B) : CIf c A B := by subst hc; exact h
theorem CIf.mk {c : Bool} {A B : Prop} (h1 : c = true → A) (h2 : c = false → B) : CIf c A B := CIf_iff.2 ⟨h1, h2⟩

theorem CJoin.of {α : Type} {A : (α → UW → Prop) → Prop} {B : α → UW → Prop} (h : ∀ J : α → UW → Prop, (∀ s u, B s u → J s u) → A J) : CJoin A B := ⟨B, h B fun _ _ h => h, fun _ _ h => h⟩

/-- A loop that counts up to n. -/
theorem LoopI.up {body : (Int → UW → Prop) → Int → UW → Prop} {u : UW} (n : Nat) (hn : n < 9223372036854775808) (I : Nat → UW → Prop) (h0 : I 0 u)
    (h : ∀ (k : Nat) (u : UW) (next : Int → UW → Prop), k ≤ n → I k u → (k < n → ∀ u', I (k + 1) u' → next (IntKind.wrap .i64 ((k : Int) + 1)) u') → body next (k : Int) u) : LoopI body 0 u := by
  refine ⟨fun s u => ∃ k : Nat, s = (k : Int) ∧ k ≤ n ∧ I k u, fun s _ => ((n : Int) - s).toNat, ⟨0, rfl, Nat.zero_le _, h0⟩, ?_⟩
  rintro _ u ⟨k, rfl, hk, hI⟩
  refine h k u _ hk hI fun hlt u' hI' => ?_
  rw [wrap_id (by omega) (by omega)]
  exact ⟨⟨k + 1, by omega, by omega, hI'⟩, by simp only []; omega⟩

/-- The same, beside something else that changes. -/
theorem LoopI.up2 {β : Type} {body : (β × Int → UW → Prop) → β × Int → UW → Prop} {x : β} {u : UW} (n : Nat) (hn : n < 9223372036854775808) (I : Nat → β → UW → Prop) (h0 : I 0 x u)
    (h : ∀ (k : Nat) (x : β) (u : UW) (next : β × Int → UW → Prop), k ≤ n → I k x u → (k < n → ∀ x' u', I (k + 1) x' u' → next (x', IntKind.wrap .i64 ((k : Int) + 1)) u') → body next (x, (k : Int)) u) : LoopI body (x, 0) u := by
  refine ⟨fun s u => ∃ k : Nat, s.2 = (k : Int) ∧ k ≤ n ∧ I k s.1 u, fun s _ => ((n : Int) - s.2).toNat, ⟨0, rfl, Nat.zero_le _, h0⟩, ?_⟩
  rintro ⟨x, _⟩ u ⟨k, rfl, hk, hI⟩
  refine h k x u _ hk hI fun hlt x' u' hI' => ?_
  rw [wrap_id (by omega) (by omega)]
  exact ⟨⟨k + 1, by simp, by omega, hI'⟩, by simp; omega⟩

theorem SlR.get {T : Type} {cells : T → List Value} {H : Heap} {a : Option Addr} {n c sz : Nat} {l : List T} (h : SlR H a n c sz (l.map cells)) {k : Nat} (hk : k < n) : ∃ (b o : Nat) (hl : k < l.length), a = some ⟨b, o, none⟩ ∧ rd H b (o + k * sz) sz = some (cells l[k]) := by
  have hl : k < (l.map cells).length := by have := h.len; omega
  obtain ⟨b, o, e, hr⟩ := h.at hl
  exact ⟨b, o, by simpa using hl, e, by simpa using hr⟩

theorem SlR.length {T : Type} {cells : T → List Value} {H : Heap} {a : Option Addr} {n c sz : Nat} {l : List T} (h : SlR H a n c sz (l.map cells)) : l.length = n := by simpa using h.len

theorem SlC.one {H : Heap} {b : Nat} {T : TypeId} {f : Nat × Nat} {vs : List Value} (h : H[b]? = some (.cells vs.toArray T f)) : SlC H (some ⟨b, 0, none⟩) 1 1 vs.length [vs] :=
  ⟨⟨rfl, Nat.le_refl _, by simp, fun _ => ⟨b, 0, rfl, by rw [rd_of h (by simp)]; simp⟩⟩, fun _ h => (by cases h; rfl)⟩

theorem Below.next {a b c : World} (h : Below a.heap.size a b) (k : Below b.heap.size b c) : Below a.heap.size a c :=
  ⟨k.os.trans h.os, k.tape.trans h.tape, k.output.trans h.output, Nat.le_trans h.size k.size, fun i hi => (k.block i (Nat.lt_of_lt_of_le hi h.size)).trans (h.block i hi)⟩

theorem slA_zero {a : Option Addr} {m sz : Nat} (h : noSpot a) : slA a 0 m sz = a := by
  unfold slA
  split
  · rfl
  · cases a with
    | none => rfl
    | some x => obtain ⟨b, o, s⟩ := x; have := h _ rfl; simp at this; subst this; simp

/-! ### what a function hands back -/
/-- A slice in new memory. -/
structure NewSl (lo : Nat) (H : Heap) (a : Option Addr) (n c sz : Nat) (css : List (List Value)) : Prop where
  sl : SlC H a n c sz css
  own : ∀ b o, a = some ⟨b, o, none⟩ → lo ≤ b ∧ ∃ C T, H[b]? = some (.cells C T (0, 0)) ∧ o + c * sz ≤ C.size
  nil : a = none → c = 0

theorem NewSl.of {lo : Nat} {w : World} {pub : Nat → Prop} {a : Option Addr} {n c sz : Nat} {css : List (List Value)} (hp : ∀ b, pub b → False ∨ lo ≤ b) (h : Own ⟨w, pub⟩ a n c sz css) : NewSl lo w.heap a n c sz css :=
  ⟨h.sl, fun b o e => ⟨(hp b (h.own b o e).1).elim False.elim id, (h.own b o e).2⟩, h.nil⟩

theorem NewSl.ret {lo : Nat} {u : UW} {w : World} {a : Option Addr} {n c sz : Nat} {css : List (List Value)} (h : NewSl lo w.heap a n c sz css) : Own (u.ret lo w) a n c sz css :=
  ⟨h.sl, fun b o e => ⟨.inr ⟨(h.own b o e).1, by obtain ⟨C, T, hb, _⟩ := (h.own b o e).2; exact (Array.getElem?_eq_some_iff.1 hb).1⟩, (h.own b o e).2⟩, h.nil⟩

theorem Own.below {u : UW} {w' : World} {pub : Nat → Prop} {a : Option Addr} {n c sz : Nat} {css : List (List Value)} (h : Own u a n c sz css) (hb : Below u.heap.size u.toWorld w') (hp : ∀ b, u.pub b → pub b) : Own ⟨w', pub⟩ a n c sz css :=
  ⟨h.sl.below hb, fun b o e => ⟨hp b (h.own b o e).1, by
    obtain ⟨C, T, h1, h2⟩ := (h.own b o e).2
    exact ⟨C, T, by rw [hb.block b (Array.getElem?_eq_some_iff.1 h1).1]; exact h1, h2⟩⟩, h.nil⟩

theorem Own.nilsl (u : UW) (sz : Nat) : Own u none 0 0 sz [] := ⟨SlC.nil _ _, fun _ _ h => (by cases h), fun _ => rfl⟩

/-! ### symbols, bindings, tests -/
structure Sym where
  k : Int
  t : ByteArray
  n : Int

@[reducible] def Sym.cells (s : Sym) : List Value := [.int .i64 s.k, .string s.t, .int .i64 s.n]

structure Bind where
  v : ByteArray
  s : Sym

@[reducible] def Bind.cells (b : Bind) : List Value := [.string b.v, .int .i64 b.s.k, .string b.s.t, .int .i64 b.s.n]

structure Test where
  rel : Int
  var : ByteArray
  sym : Sym
  la : Option Addr
  ln : Nat
  lc : Nat

@[reducible] def Test.cells (t : Test) : List Value := [.int .i64 t.rel, .string t.var, .int .i64 t.sym.k, .string t.sym.t, .int .i64 t.sym.n, .slice t.la t.ln t.lc]

structure Elem where
  id : Sym
  attr : Sym
  value : Sym
  acc : Bool
  goal : Bool
  tag : Int

@[reducible] def Elem.cells (e : Elem) : List Value := [.int .i64 e.id.k, .string e.id.t, .int .i64 e.id.n, .int .i64 e.attr.k, .string e.attr.t, .int .i64 e.attr.n, .int .i64 e.value.k, .string e.value.t, .int .i64 e.value.n, .bool e.acc, .bool e.goal, .int .i64 e.tag]

/-- Are two symbols one, as the machine asks it? -/
@[reducible] def symEq (x y : Sym) : Bool := (x.k == y.k) && (strEq x.t y.t && ((x.n == y.n) && true))

theorem symEq_iff {x y : Sym} : symEq x y = true ↔ x = y := by
  obtain ⟨a, b, c⟩ := x; obtain ⟨a', b', c'⟩ := y
  simp [symEq, strEq_iff]

theorem symEq_self (x : Sym) : symEq x x = true := symEq_iff.2 rfl

@[reducible] def bindEq (x y : Bind) : Bool := strEq x.v y.v && ((x.s.k == y.s.k) && (strEq x.s.t y.s.t && ((x.s.n == y.s.n) && true)))

theorem bindEq_iff {x y : Bind} : bindEq x y = true ↔ x = y := by
  obtain ⟨v, ⟨a, b, c⟩⟩ := x; obtain ⟨v', ⟨a', b', c'⟩⟩ := y
  simp [bindEq, strEq_iff]

/-- How two symbols stand to each other. -/
def holds (rel : Int) (a b : Sym) : Bool :=
  bif rel == 1 then symEq a b else bif rel == 2 then !symEq a b else
  bif rel == 3 then (a.k == 2 && b.k == 2) && decide (a.n < b.n) else bif rel == 4 then (a.k == 2 && b.k == 2) && decide (a.n ≤ b.n) else
  bif rel == 5 then (a.k == 2 && b.k == 2) && decide (a.n > b.n) else bif rel == 6 then (a.k == 2 && b.k == 2) && decide (a.n ≥ b.n) else
  bif rel == 7 then a.k == b.k else false

/-- What a variable is. -/
def getB : List Bind → ByteArray → Option Sym
  | [], _ => none
  | b :: l, v => if strEq b.v v = true then some b.s else getB l v

theorem getB_append (l r : List Bind) (v : ByteArray) : getB (l ++ r) v = (getB l v).or (getB r v) := by
  induction l with
  | nil => simp [getB]
  | cons b l ih => simp only [List.cons_append, getB]; split <;> simp [ih]

theorem getB_take {l : List Bind} {v : ByteArray} {k : Nat} (hk : k < l.length) (h : getB (l.take k) v = none) : getB (l.take (k + 1)) v = if strEq l[k].v v = true then some l[k].s else none := by
  rw [List.take_add_one, getB_append, h, Option.none_or, List.getElem?_eq_getElem hk]
  simp [getB]

theorem getB_hit {l : List Bind} {v : ByteArray} {k : Nat} (hk : k < l.length) (h : getB (l.take k) v = none) (he : strEq l[k].v v = true) : getB l v = some l[k].s := by
  have h1 := getB_take hk h
  rw [if_pos he] at h1
  have h2 := getB_append (l.take (k + 1)) (l.drop (k + 1)) v
  rw [List.take_append_drop, h1] at h2
  exact h2

/-- Does a symbol meet a test? -/
def met (t : Test) (ls : List Sym) (s : Sym) (l : List Bind) : Option (List Bind) :=
  if t.rel = 8 then (if ls.any (fun x => symEq x s) = true then some l else none)
  else if t.rel < 1 ∨ t.rel > 7 then none
  else if t.var = ⟨#[]⟩ then (if holds t.rel s t.sym = true then some l else none)
  else match getB l t.var with
    | some x => if holds t.rel s x = true then some l else none
    | none => if t.rel = 1 then some (l ++ [⟨t.var, s⟩]) else none

theorem met_len {t : Test} {ls : List Sym} {s : Sym} {l l' : List Bind} (h : met t ls s l = some l') : l'.length ≤ l.length + 1 := by
  unfold met at h
  (repeat' split at h) <;> cases h <;> simp

/-- One test behind the other. -/
def allT : List (Test × List Sym) → Sym → List Bind → Option (List Bind)
  | [], _, l => some l
  | t :: ts, s, l => (met t.1 t.2 s l).bind (allT ts s)

theorem allT_append (a b : List (Test × List Sym)) (s : Sym) (l : List Bind) : allT (a ++ b) s l = (allT a s l).bind (allT b s) := by
  induction a generalizing l with
  | nil => rfl
  | cons t a ih =>
    simp only [List.cons_append, allT]
    cases met t.1 t.2 s l with
    | none => rfl
    | some l' => exact ih l'

theorem allT_take {ts : List (Test × List Sym)} {s : Sym} {l lk : List Bind} {k : Nat} (hk : k < ts.length) (h : allT (ts.take k) s l = some lk) : allT (ts.take (k + 1)) s l = met ts[k].1 ts[k].2 s lk := by
  rw [List.take_add_one, allT_append, h, List.getElem?_eq_getElem hk]
  simp only [Option.toList_some, Option.bind_some, allT]
  cases met ts[k].1 ts[k].2 s lk <;> rfl

theorem allT_fail {ts : List (Test × List Sym)} {s : Sym} {l : List Bind} (k : Nat) (h : allT (ts.take k) s l = none) : allT ts s l = none := by
  have h2 := allT_append (ts.take k) (ts.drop k) s l
  rw [List.take_append_drop, h] at h2
  exact h2

theorem allT_len {ts : List (Test × List Sym)} {s : Sym} {l l' : List Bind} (h : allT ts s l = some l') : l'.length ≤ l.length + ts.length := by
  induction ts generalizing l with
  | nil => simp only [allT, Option.some.injEq] at h; subst h; simp
  | cons t ts ih =>
    simp only [allT, Option.bind_eq_some_iff] at h
    obtain ⟨l1, h1, h2⟩ := h
    have := met_len h1; have := ih h2; simp only [List.length_cons]; omega

structure TestIn (H : Heap) (t : Test) (ls : List Sym) : Prop where
  list : SlR H t.la t.ln t.lc 3 (ls.map Sym.cells)
  len : t.ln ≤ 1000000

theorem TestIn.below {w w' : World} {t : Test} {ls : List Sym} (h : TestIn w.heap t ls) (hb : Below w.heap.size w w') : TestIn w'.heap t ls := ⟨h.list.below hb, h.len⟩

structure TestsIn (H : Heap) (a : Option Addr) (n c : Nat) (ts : List (Test × List Sym)) : Prop where
  sl : SlR H a n c 6 (ts.map fun p => p.1.cells)
  each : ∀ p ∈ ts, TestIn H p.1 p.2

theorem TestsIn.below {w w' : World} {a : Option Addr} {n c : Nat} {ts : List (Test × List Sym)} (h : TestsIn w.heap a n c ts) (hb : Below w.heap.size w w') : TestsIn w'.heap a n c ts := ⟨h.sl.below hb, fun p hp => (h.each p hp).below hb⟩

structure CondD where
  kind : Int
  goal : Bool
  id : ByteArray
  aa : Option Addr
  an : Nat
  ac : Nat
  va : Option Addr
  vn : Nat
  vc : Nat
  acc : Bool
  ca : Option Addr
  cn : Nat
  cc : Nat

@[reducible] def CondD.cells (c : CondD) : List Value := [.int .i64 c.kind, .bool c.goal, .string c.id, .slice c.aa c.an c.ac, .slice c.va c.vn c.vc, .bool c.acc, .slice c.ca c.cn c.cc]

@[reducible] def idTest (v : ByteArray) : Test := ⟨1, v, ⟨0, ⟨#[]⟩, 0⟩, none, 0, 0⟩

/-- Does an element alone meet a condition? -/
def condS (c : CondD) (ats vts : List (Test × List Sym)) (e : Elem) (l : List Bind) : Option (List Bind) :=
  if (c.kind = 1 ∨ c.kind = 2) ∧ (c.goal = true → e.goal = true) ∧ c.acc = e.acc then
    (met (idTest c.id) [] e.id l).bind fun l1 => (allT ats e.attr l1).bind fun l2 => allT vts e.value l2
  else none

end Go.Eng
