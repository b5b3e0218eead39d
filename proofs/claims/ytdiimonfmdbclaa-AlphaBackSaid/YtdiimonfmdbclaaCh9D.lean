import Derived.Test.YtdiimonfmdbclaaDom
/-
  Tests, as the document has them: plain definitions.
-/
namespace Go.Eng
open Go.RowKit

/-- How two symbols stand to each other. -/
def holds (rel : Int) (a b : Sym) : Bool :=
  bif rel == 1 then symEq a b else bif rel == 2 then !symEq a b else
  bif rel == 3 then (a.k == 2 && b.k == 2) && decide (a.n < b.n) else bif rel == 4 then (a.k == 2 && b.k == 2) && decide (a.n ≤ b.n) else
  bif rel == 5 then (a.k == 2 && b.k == 2) && decide (a.n > b.n) else bif rel == 6 then (a.k == 2 && b.k == 2) && decide (a.n ≥ b.n) else
  bif rel == 7 then a.k == b.k else false

/-- What a variable is. -/
def getB : List Bind → ByteArray → Option Sym
  | [], _ => none
  | b :: l, v => if strEq b.v v = true then some b.s else getB l v

theorem getB_append (l r : List Bind) (v : ByteArray) : getB (l ++ r) v = (getB l v).or (getB r v) := by
  induction l with
  | nil => simp [getB]
  | cons b l ih => simp only [List.cons_append, getB]; split <;> simp [ih]

theorem getB_take {l : List Bind} {v : ByteArray} {k : Nat} (hk : k < l.length) (h : getB (l.take k) v = none) : getB (l.take (k + 1)) v = if strEq l[k].v v = true then some l[k].s else none := by
  rw [List.take_add_one, getB_append, h, Option.none_or, List.getElem?_eq_getElem hk]
  simp [getB]

theorem getB_hit {l : List Bind} {v : ByteArray} {k : Nat} (hk : k < l.length) (h : getB (l.take k) v = none) (he : strEq l[k].v v = true) : getB l v = some l[k].s := by
  have h1 := getB_take hk h
  rw [if_pos he] at h1
  have h2 := getB_append (l.take (k + 1)) (l.drop (k + 1)) v
  rw [List.take_append_drop, h1] at h2
  exact h2

/-- Does a symbol meet a test? -/
def met (t : Test) (s : Sym) (l : List Bind) : Option (List Bind) :=
  if t.rel = 8 then (if t.list.any (fun x => symEq x s) = true then some l else none)
  else if t.rel < 1 ∨ t.rel > 7 then none
  else if t.var = ⟨#[]⟩ then (if holds t.rel s t.sym = true then some l else none)
  else match getB l t.var with
    | some x => if holds t.rel s x = true then some l else none
    | none => if t.rel = 1 then some (l ++ [⟨t.var, s⟩]) else none

theorem met_len {t : Test} {s : Sym} {l l' : List Bind} (h : met t s l = some l') : l'.length ≤ l.length + 1 := by
  unfold met at h
  (repeat' split at h) <;> cases h <;> simp

/-- One test behind the other. -/
def allT : List Test → Sym → List Bind → Option (List Bind)
  | [], _, l => some l
  | t :: ts, s, l => (met t s l).bind (allT ts s)

theorem allT_append (a b : List Test) (s : Sym) (l : List Bind) : allT (a ++ b) s l = (allT a s l).bind (allT b s) := by
  induction a generalizing l with
  | nil => rfl
  | cons t a ih =>
    simp only [List.cons_append, allT]
    cases met t s l with
    | none => rfl
    | some l' => exact ih l'

theorem allT_take {ts : List Test} {s : Sym} {l lk : List Bind} {k : Nat} (hk : k < ts.length) (h : allT (ts.take k) s l = some lk) : allT (ts.take (k + 1)) s l = met ts[k] s lk := by
  rw [List.take_add_one, allT_append, h, List.getElem?_eq_getElem hk]
  simp only [Option.toList_some, Option.bind_some, allT]
  cases met ts[k] s lk <;> rfl

theorem allT_fail {ts : List Test} {s : Sym} {l : List Bind} (k : Nat) (h : allT (ts.take k) s l = none) : allT ts s l = none := by
  have h2 := allT_append (ts.take k) (ts.drop k) s l
  rw [List.take_append_drop, h] at h2
  exact h2

theorem allT_len {ts : List Test} {s : Sym} {l l' : List Bind} (h : allT ts s l = some l') : l'.length ≤ l.length + ts.length := by
  induction ts generalizing l with
  | nil => simp only [allT, Option.some.injEq] at h; subst h; simp
  | cons t ts ih =>
    simp only [allT, Option.bind_eq_some_iff] at h
    obtain ⟨l1, h1, h2⟩ := h
    have := met_len h1; have := ih h2; simp only [List.length_cons]; omega

@[reducible] def idTest (v : ByteArray) : Test := ⟨1, v, ⟨0, ⟨#[]⟩, 0⟩, []⟩

/-- Does an element alone meet a condition? -/
def condS (c : Cond) (e : Elem) (l : List Bind) : Option (List Bind) :=
  if (c.kind = 1 ∨ c.kind = 2) ∧ (c.goal = true → e.goal = true) ∧ c.acc = e.acc then
    (met (idTest c.id) e.id l).bind fun l1 => (allT c.attr e.attr l1).bind fun l2 => allT c.value e.value l2
  else none

theorem condS_len {c : Cond} {e : Elem} {l l' : List Bind} (h : condS c e l = some l') : l'.length ≤ l.length + 1 + c.attr.length + c.value.length := by
  unfold condS at h
  split at h
  · simp only [Option.bind_eq_some_iff] at h
    obtain ⟨l1, h1, l2, h2, h3⟩ := h
    have := met_len h1; have := allT_len h2; have := allT_len h3; omega
  · cases h

/-- Those that meet a condition, with their bindings. -/
def someL (c : Cond) (l : List Bind) (es : List Elem) : List (Elem × List Bind) := es.filterMap fun e => (condS c e l).map fun r => (e, r)

theorem someL_take {c : Cond} {l : List Bind} {es : List Elem} {k : Nat} (hk : k < es.length) :
    someL c l (es.take (k + 1)) = someL c l (es.take k) ++ ((condS c es[k] l).map fun r => (es[k], r)).toList := by
  unfold someL
  rw [List.take_add_one, List.getElem?_eq_getElem hk, List.filterMap_append]
  congr 1

theorem someL_split {c : Cond} {l : List Bind} {es : List Elem} (k : Nat) : someL c l es = someL c l (es.take k) ++ someL c l (es.drop k) := by
  unfold someL
  rw [← List.filterMap_append, List.take_append_drop]

theorem someL_at {c : Cond} {l : List Bind} {es : List Elem} {k : Nat} (hk : k < es.length) {r : List Bind} (h : condS c es[k] l = some r) :
    ∃ hj : (someL c l (es.take k)).length < (someL c l es).length, (someL c l es)[(someL c l (es.take k)).length]'hj = (es[k], r) := by
  have e := someL_split (c := c) (l := l) (es := es) (k + 1)
  rw [someL_take hk, h] at e
  simp only [Option.map_some, Option.toList_some, List.append_assoc, List.cons_append, List.nil_append] at e
  have hlen : (someL c l (es.take k)).length < (someL c l es).length := by rw [e]; simp
  refine ⟨hlen, ?_⟩
  have : (someL c l es)[(someL c l (es.take k)).length]? = some (es[k], r) := by
    rw [e, List.getElem?_append_right (Nat.le_refl _)]; simp
  rw [List.getElem?_eq_getElem hlen] at this
  exact Option.some.inj this

theorem someL_len {c : Cond} {l : List Bind} {es : List Elem} : (someL c l es).length ≤ es.length := List.length_filterMap_le _ _

end Go.Eng
