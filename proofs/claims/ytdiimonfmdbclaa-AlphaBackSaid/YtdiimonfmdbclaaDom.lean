import Derived.Test.YtdiimonfmdbclaaPvO
/-
  The program's things as plain data, and as rows of plain values.
-/
namespace Go.Eng
open Go.RowKit

theorem strEq_self (a : ByteArray) : strEq a a = true := strEq_iff.2 rfl
theorem strEq_false {a b : ByteArray} : strEq a b = false ↔ a ≠ b := by
  cases h : strEq a b with
  | true => simp [strEq_iff.1 h]
  | false =>
    simp only [true_iff]
    intro e
    rw [strEq_iff.2 e] at h; cases h

structure Sym where
  k : Int
  t : ByteArray
  n : Int

@[reducible] def Sym.pv (s : Sym) : List PV := [pI s.k, pS s.t, pI s.n]

structure Bind where
  v : ByteArray
  s : Sym

@[reducible] def Bind.pv (b : Bind) : List PV := [pS b.v, pI b.s.k, pS b.s.t, pI b.s.n]

structure Test where
  rel : Int
  var : ByteArray
  sym : Sym
  list : List Sym

@[reducible] def Test.pv (t : Test) : List PV := [pI t.rel, pS t.var, pI t.sym.k, pS t.sym.t, pI t.sym.n, .list 3 .sh (t.list.map Sym.pv)]

structure Elem where
  id : Sym
  attr : Sym
  value : Sym
  acc : Bool
  goal : Bool
  tag : Int

@[reducible] def Elem.pv (e : Elem) : List PV := [pI e.id.k, pS e.id.t, pI e.id.n, pI e.attr.k, pS e.attr.t, pI e.attr.n, pI e.value.k, pS e.value.t, pI e.value.n, pB e.acc, pB e.goal, pI e.tag]

inductive Cond where
  | mk (kind : Int) (goal : Bool) (id : ByteArray) (attr value : List Test) (acc : Bool) (conds : List Cond)

namespace Cond
def kind : Cond → Int | .mk k _ _ _ _ _ _ => k
def goal : Cond → Bool | .mk _ g _ _ _ _ _ => g
def id : Cond → ByteArray | .mk _ _ i _ _ _ _ => i
def attr : Cond → List Test | .mk _ _ _ a _ _ _ => a
def value : Cond → List Test | .mk _ _ _ _ v _ _ => v
def acc : Cond → Bool | .mk _ _ _ _ _ a _ => a
def conds : Cond → List Cond | .mk _ _ _ _ _ _ c => c
end Cond

mutual
def Cond.pv : Cond → List PV
  | .mk k g i a v ac cs => [pI k, pB g, pS i, .list 6 .sh (a.map Test.pv), .list 6 .sh (v.map Test.pv), pB ac, .list 7 .sh (Cond.pvs cs)]
def Cond.pvs : List Cond → List (List PV)
  | [] => []
  | c :: cs => Cond.pv c :: Cond.pvs cs
end

theorem Cond.pvs_eq : ∀ cs : List Cond, Cond.pvs cs = cs.map Cond.pv
  | [] => rfl
  | c :: cs => by simp [Cond.pvs, Cond.pvs_eq cs]

theorem Cond.pv_eq (c : Cond) : c.pv = [pI c.kind, pB c.goal, pS c.id, .list 6 .sh (c.attr.map Test.pv), .list 6 .sh (c.value.map Test.pv), pB c.acc, .list 7 .sh (c.conds.map Cond.pv)] := by
  cases c; simp only [Cond.pv, Cond.pvs_eq]; rfl

/-- A condition's own structure: its parts, and what is within it. -/
theorem Cond.ind {Q : Cond → Prop} (h : ∀ c : Cond, (∀ d ∈ c.conds, Q d) → Q c) : ∀ c, Q c := by
  intro c
  exact Cond.rec (motive_1 := Q) (motive_2 := fun l => ∀ d ∈ l, Q d) (fun k g i a v ac cs ih => h _ ih) (fun d hd => by cases hd) (fun c cs h1 h2 d hd => by
    rcases List.mem_cons.1 hd with rfl | hd
    · exact h1
    · exact h2 d hd) c

structure Atom where
  var : ByteArray
  sym : Sym

@[reducible] def Atom.pv (a : Atom) : List PV := [pS a.var, pI a.sym.k, pS a.sym.t, pI a.sym.n]

structure Term where
  op : Int
  a : Atom
  b : Atom

@[reducible] def Term.pv (t : Term) : List PV := [pI t.op, pS t.a.var, pI t.a.sym.k, pS t.a.sym.t, pI t.a.sym.n, pS t.b.var, pI t.b.sym.k, pS t.b.sym.t, pI t.b.sym.n]

structure Actn where
  id : ByteArray
  attr : Atom
  value : Term
  pref : Int
  other : Atom

@[reducible] def Actn.pv (a : Actn) : List PV := [pS a.id, pS a.attr.var, pI a.attr.sym.k, pS a.attr.sym.t, pI a.attr.sym.n, pI a.value.op, pS a.value.a.var, pI a.value.a.sym.k, pS a.value.a.sym.t, pI a.value.a.sym.n, pS a.value.b.var, pI a.value.b.sym.k, pS a.value.b.sym.t, pI a.value.b.sym.n, pI a.pref, pS a.other.var, pI a.other.sym.k, pS a.other.sym.t, pI a.other.sym.n]

structure Prod where
  name : ByteArray
  conds : List Cond
  acts : List Actn

@[reducible] def Prod.pv (p : Prod) : List PV := [pS p.name, .list 7 .sh (p.conds.map Cond.pv), .list 19 .sh (p.acts.map Actn.pv)]

/-- Are two symbols one, as the machine asks it? -/
@[reducible] def symEq (x y : Sym) : Bool := (x.k == y.k) && (strEq x.t y.t && ((x.n == y.n) && true))

theorem symEq_iff {x y : Sym} : symEq x y = true ↔ x = y := by
  obtain ⟨a, b, c⟩ := x; obtain ⟨a', b', c'⟩ := y
  simp [symEq, strEq_iff]

theorem symEq_self (x : Sym) : symEq x x = true := symEq_iff.2 rfl

@[reducible] def bindEq (x y : Bind) : Bool := strEq x.v y.v && ((x.s.k == y.s.k) && (strEq x.s.t y.s.t && ((x.s.n == y.s.n) && true)))

theorem bindEq_iff {x y : Bind} : bindEq x y = true ↔ x = y := by
  obtain ⟨v, ⟨a, b, c⟩⟩ := x; obtain ⟨v', ⟨a', b', c'⟩⟩ := y
  simp [bindEq, strEq_iff]

theorem any_take {α : Type} {p : α → Bool} {l : List α} {k : Nat} (hk : k < l.length) (h : (l.take k).any p = false) : (l.take (k + 1)).any p = p l[k] := by
  rw [List.take_add_one, List.any_append, h, List.getElem?_eq_getElem hk]; simp

theorem anyHit {α : Type} {p : α → Bool} {l : List α} {k : Nat} (hk : k < l.length) (h : p l[k] = true) : l.any p = true := List.any_eq_true.2 ⟨_, List.getElem_mem hk, h⟩

theorem allTake {α : Type} {p : α → Bool} {l : List α} {k : Nat} (hk : k < l.length) (h : (l.take k).all p = true) : (l.take (k + 1)).all p = p l[k] := by
  rw [List.take_add_one, List.all_append, h, List.getElem?_eq_getElem hk]; simp

theorem allMiss {α : Type} {p : α → Bool} {l : List α} {k : Nat} (hk : k < l.length) (h : p l[k] = false) : l.all p = false := by
  cases ha : l.all p with
  | false => rfl
  | true => rw [List.all_eq_true.1 ha _ (List.getElem_mem hk)] at h; cases h

theorem mapTake {α β : Type} {f : α → β} {l : List α} {k : Nat} (hk : k < l.length) : (l.take (k + 1)).map f = (l.take k).map f ++ [f l[k]] := by
  rw [List.take_add_one, List.getElem?_eq_getElem hk, List.map_append]; rfl

theorem takeAll {α : Type} {l : List α} {k : Nat} (h : ¬ k < l.length) : l.take k = l := List.take_of_length_le (by omega)

/-- A loop that goes through a list till it is left. -/
theorem LoopI.each {γ : Type} {body : (Int → γ → Prop) → Int → γ → Prop} {u : γ} {n : Nat} (hn : n < 9223372036854775808) (I : Nat → γ → Prop) (h0 : I 0 u)
    (hin : ∀ (k : Nat) (u : γ) (next : Int → γ → Prop), k < n → I k u → (∀ u', I (k + 1) u' → next (IntKind.wrap .i64 ((k : Int) + 1)) u') → body next (k : Int) u) (hout : ∀ (u : γ) (next : Int → γ → Prop), I n u → body next (n : Int) u) : LoopI body 0 u := by
  refine LoopI.up n hn I h0 fun k u next hk hI hnext => ?_
  by_cases hlt : k < n
  · exact hin k u next hlt hI (hnext hlt)
  · have : k = n := by omega
    subst this
    exact hout u next hI

theorem LoopI.each2 {β γ : Type} {body : (β × Int → γ → Prop) → β × Int → γ → Prop} {x : β} {u : γ} {n : Nat} (hn : n < 9223372036854775808) (I : Nat → β → γ → Prop) (h0 : I 0 x u)
    (hin : ∀ (k : Nat) (x : β) (u : γ) (next : β × Int → γ → Prop), k < n → I k x u → (∀ x' u', I (k + 1) x' u' → next (x', IntKind.wrap .i64 ((k : Int) + 1)) u') → body next (x, (k : Int)) u) (hout : ∀ (x : β) (u : γ) (next : β × Int → γ → Prop), I n x u → body next (x, (n : Int)) u) : LoopI body (x, 0) u := by
  refine LoopI.up2 n hn I h0 fun k x u next hk hI hnext => ?_
  by_cases hlt : k < n
  · exact hin k x u next hlt hI (hnext hlt)
  · have : k = n := by omega
    subst this
    exact hout x u next hI

theorem CIf.lt {k n : Nat} {A B : Prop} (h : k < n) (ha : A) : CIf (decide (((k : Nat) : Int) < ((n : Nat) : Int))) A B := CIf.t (by simpa using h) ha
theorem CIf.ge {n : Nat} {A B : Prop} (hb : B) : CIf (decide (((n : Nat) : Int) < ((n : Nat) : Int))) A B := CIf.f (by simp) hb

/-- The same from a later place on. -/
theorem LoopI.from {γ : Type} {body : (Int → γ → Prop) → Int → γ → Prop} {u : γ} {n s : Nat} (hs : s ≤ n) (hn : n < 9223372036854775808) (I : Nat → γ → Prop) (h0 : I s u)
    (hin : ∀ (k : Nat) (u : γ) (next : Int → γ → Prop), s ≤ k → k < n → I k u → (∀ u', I (k + 1) u' → next (IntKind.wrap .i64 ((k : Int) + 1)) u') → body next (k : Int) u) (hout : ∀ (u : γ) (next : Int → γ → Prop), I n u → body next (n : Int) u) : LoopI body (s : Int) u := by
  refine ⟨fun m x u => ∃ k : Nat, x = (k : Int) ∧ s ≤ k ∧ k ≤ n ∧ I k u ∧ m = n - k, ⟨n - s, s, rfl, Nat.le_refl _, hs, h0, rfl⟩, ?_⟩
  rintro _ _ u ⟨k, rfl, hsk, hk, hI, rfl⟩
  by_cases hlt : k < n
  · refine hin k u _ hsk hlt hI fun u' hI' => ?_
    rw [wrap_id (by omega) (by omega)]
    exact ⟨n - (k + 1), by omega, k + 1, by omega, by omega, by omega, hI', rfl⟩
  · have : k = n := by omega
    subst this
    exact hout u _ hI

/-! ### texts -/
@[reducible] def bL (t : ByteArray) : List UInt8 := t.data.toList

theorem bL_len (t : ByteArray) : (bL t).length = t.size := rfl

theorem byteAt {t : ByteArray} {k : Nat} (hk : k < t.size) : t[Int.toNat (k : Int)]? = some (bL t)[k] := by
  rw [Int.toNat_natCast, getElem?_pos t k hk]; rfl

end Go.Eng
