import Derived.OrdersHeld
import Derived.OrdersIn
import Derived.RangeFuncNested
import Derived.Below
import Derived.KernelRfl
/-
  The engine, first part: frames as functions, private boxes as ghost slots, typed existentials, heap reading.
-/
namespace Go.Eng
open Go.RowKit

abbrev Fr := Nat → Value
abbrev Heap := Array Obj

/-- A pointer to private box k at offset o, and a slot of which nothing is known. -/
@[reducible] def fake (k o : Nat) : Value := .complex .f64 k o
@[reducible] def poison : Value := .complex .f32 0 0

def plain : Value → Bool
  | .complex _ _ _ => false
  | _ => true

def one : Value → Bool
  | .agg _ | .tuple _ => false
  | _ => true

/-- How a value of the engine's frame stands to the machine's. -/
def R (θ : Nat → Nat) (v r : Value) : Prop :=
  match v with
  | .complex .f64 k o => r = .pointer (some ⟨θ k, o, none⟩)
  | .complex .f32 _ _ => True
  | v => r = v

theorem R_plain {θ : Nat → Nat} {v r : Value} (h : plain v = true) : R θ v r ↔ r = v := by
  cases v <;> simp_all [R, plain]

theorem R_refl {θ : Nat → Nat} {v : Value} (h : plain v = true) : R θ v v := (R_plain h).2 rfl

def upd (σ : Fr) (t : Nat) (v : Value) : Fr := fun i => bif Nat.beq i t then v else σ i

@[simp] theorem upd_same (σ : Fr) (t : Nat) (v : Value) : upd σ t v t = v := by simp [upd]
theorem upd_ne (σ : Fr) {t i : Nat} (v : Value) (h : i ≠ t) : upd σ t v i = σ i := by
  have : Nat.beq i t = false := by
    cases hb : Nat.beq i t with
    | false => rfl
    | true => exact absurd (Nat.eq_of_beq_eq_true hb) h
  simp [upd, this]

def put (σ : Fr) (d : Option Nat) (v : Value) : Fr := match d with | some t => upd σ t v | none => σ

/-- The ghost slot of cell j of private box k. -/
def gx (k j : Nat) : Nat := (k + 1) * 65536 + j

def wrG (σ : Fr) (k : Nat) : Nat → List Value → Fr
  | _, [] => σ
  | j, v :: vs => wrG (upd σ (gx k j) v) k (j + 1) vs

def rdG (σ : Fr) (k : Nat) : Nat → Nat → List Value
  | _, 0 => []
  | j, m + 1 => σ (gx k j) :: rdG σ k (j + 1) m

theorem rdG_length (σ : Fr) (k : Nat) : ∀ (m j : Nat), (rdG σ k j m).length = m
  | 0, _ => rfl
  | m + 1, j => by simp [rdG, rdG_length σ k m (j + 1)]

theorem rdG_getElem? (σ : Fr) (k : Nat) : ∀ (m j i : Nat), i < m → (rdG σ k j m)[i]? = some (σ (gx k (j + i)))
  | m + 1, j, 0, _ => by simp [rdG]
  | m + 1, j, i + 1, h => by
    simp only [rdG, List.getElem?_cons_succ]
    rw [rdG_getElem? σ k m (j + 1) i (by omega)]
    congr 3; omega

def ev (σ : Fr) : Operand → Value
  | .tmp t => σ t
  | .const v => v
  | .global g => .pointer (some ⟨g, 0, none⟩)
  | .func f => .func (.func f) #[] #[]

/-- Reading n cells of block b from offset o on. -/
def rd (H : Heap) (b o n : Nat) : Option (List Value) :=
  match H[b]? with
  | some (.cells c _ _) => if o + n ≤ c.size then some ((c.toList.drop o).take n) else none
  | _ => none

inductive K1 where
  | int (k : IntKind) | bool | str | slice | ptr | fn | map | val
  deriving DecidableEq, Inhabited

@[reducible] def K1.T : K1 → Type
  | .int _ => Int
  | .bool => Bool
  | .str => ByteArray
  | .slice => Option Addr × Nat × Nat
  | .ptr => Option Addr
  | .fn => Fn × Array Value × Array Value
  | .map => Option Nat
  | .val => Empty

def K1.v : (k : K1) → k.T → Value
  | .int k, x => .int k x
  | .bool, x => .bool x
  | .str, x => .string x
  | .slice, x => .slice x.1 x.2.1 x.2.2
  | .ptr, x => .pointer x
  | .fn, x => .func x.1 x.2.1 x.2.2
  | .map, x => .map x
  | .val, x => Empty.elim x

def K1.get : (k : K1) → Value → Option k.T
  | .int k, .int k' x => if k = k' then some x else none
  | .bool, .bool x => some x
  | .str, .string x => some x
  | .slice, .slice a n c => some (a, n, c)
  | .ptr, .pointer x => some x
  | .fn, .func f a b => some (f, a, b)
  | .map, .map x => some x
  | _, _ => none

theorem K1.get_v {k : K1} {v : Value} {x : k.T} (h : k.get v = some x) : v = k.v x := by
  cases k <;> cases v <;> simp_all [K1.get, K1.v]
  all_goals (first | exact h.2 | (subst h; exact ⟨rfl, rfl, rfl⟩))

theorem K1.plain_v (k : K1) (x : k.T) : plain (k.v x) = true := by cases k <;> first | rfl | exact Empty.elim x

/-- Typed existential over one cell, over a list of cells. -/
def exK : K1 → (Value → Prop) → Prop
  | .int k, F => ∃ x : Int, F (.int k x)
  | .bool, F => ∃ x : Bool, F (.bool x)
  | .str, F => ∃ x : ByteArray, F (.string x)
  | .slice, F => ∃ (a : Option Addr) (n c : Nat), F (.slice a n c)
  | .ptr, F => ∃ a : Option Addr, F (.pointer a)
  | .fn, F => ∃ (f : Fn) (a b : Array Value), F (.func f a b)
  | .map, F => ∃ a : Option Nat, F (.map a)
  | .val, _ => False

def exL : List K1 → (List Value → Prop) → Prop
  | [], F => F []
  | k :: ks, F => exK k fun v => exL ks fun vs => F (v :: vs)

theorem exK_elim {k : K1} {F : Value → Prop} (h : exK k F) : ∃ v, plain v = true ∧ one v = true ∧ F v := by
  cases k <;> simp only [exK] at h
  case int => obtain ⟨x, h⟩ := h; exact ⟨_, rfl, rfl, h⟩
  case bool => obtain ⟨x, h⟩ := h; exact ⟨_, rfl, rfl, h⟩
  case str => obtain ⟨x, h⟩ := h; exact ⟨_, rfl, rfl, h⟩
  case slice => obtain ⟨a, n, c, h⟩ := h; exact ⟨_, rfl, rfl, h⟩
  case ptr => obtain ⟨x, h⟩ := h; exact ⟨_, rfl, rfl, h⟩
  case fn => obtain ⟨f, a, b, h⟩ := h; exact ⟨_, rfl, rfl, h⟩
  case map => obtain ⟨x, h⟩ := h; exact ⟨_, rfl, rfl, h⟩

theorem exL_elim : ∀ {ks : List K1} {F : List Value → Prop}, exL ks F → ∃ vs, vs.length = ks.length ∧ (∀ v ∈ vs, plain v = true ∧ one v = true) ∧ F vs
  | [], _, h => ⟨[], rfl, by simp, h⟩
  | k :: ks, F, h => by
    obtain ⟨v, hp, h1, h⟩ := exK_elim h
    obtain ⟨vs, hl, hps, h⟩ := exL_elim h
    exact ⟨v :: vs, by simp [hl], by simpa using ⟨⟨hp, h1⟩, hps⟩, h⟩

/-- A value in a slot that is carried over a loop's head or a join: one cell, a struct, a private box with its contents. -/
inductive Kd where
  | one (k : K1)
  | agg (ks : List K1)
  | box (ks : List K1)
  deriving DecidableEq, Inhabited

@[reducible] def TL : List K1 → Type
  | [] => Unit
  | [k] => k.T
  | k :: k' :: ks => k.T × TL (k' :: ks)

def TLv : (ks : List K1) → TL ks → List Value
  | [], _ => []
  | [k], x => [k.v x]
  | k :: k' :: ks, x => k.v x.1 :: TLv (k' :: ks) x.2

def TLget : (ks : List K1) → List Value → Option (TL ks)
  | [], [] => some ()
  | [k], [v] => k.get v
  | k :: k' :: ks, v :: vs => match k.get v, TLget (k' :: ks) vs with
    | some x, some y => some (x, y)
    | _, _ => none
  | _, _ => none

theorem TLget_v : ∀ {ks : List K1} {vs : List Value} {x : TL ks}, TLget ks vs = some x → vs = TLv ks x
  | [], [], _, _ => rfl
  | [], _ :: _, _, h => by simp [TLget] at h
  | [k], [], _, h => by simp [TLget] at h
  | [k], [v], x, h => by simp only [TLget] at h; simp [TLv, K1.get_v h]
  | [k], v :: v' :: vs, _, h => by simp [TLget] at h
  | k :: k' :: ks, [], _, h => by simp [TLget] at h
  | k :: k' :: ks, v :: vs, x, h => by
    simp only [TLget] at h
    split at h
    · rename_i a b ha hb
      simp only [Option.some.injEq] at h
      subst h
      simp [TLv, K1.get_v ha, TLget_v hb]
    · cases h

theorem TLv_plain : ∀ (ks : List K1) (x : TL ks), ∀ v ∈ TLv ks x, plain v = true
  | [], _ => by simp [TLv]
  | [k], x => by simp [TLv, K1.plain_v]
  | k :: k' :: ks, x => by
    intro v hv
    simp only [TLv, List.mem_cons] at hv
    rcases hv with rfl | hv
    · exact K1.plain_v _ _
    · exact TLv_plain (k' :: ks) x.2 v hv

theorem TLv_length : ∀ (ks : List K1) (x : TL ks), (TLv ks x).length = ks.length
  | [], _ => rfl
  | [k], x => rfl
  | k :: k' :: ks, x => by simp [TLv, TLv_length (k' :: ks) x.2]

@[reducible] def Kd.T : Kd → Type
  | .one k => k.T
  | .agg ks => TL ks
  | .box ks => TL ks

abbrev Live := List (Nat × Kd)

@[reducible] def Tup : Live → Type
  | [] => Unit
  | [x] => x.2.T
  | x :: y :: l => x.2.T × Tup (y :: l)

structure St where
  σ : Fr
  D : List (Nat × Nat)

/-- A world, and the blocks in it that may be written. -/
structure UW extends World where
  pub : Nat → Prop

def UW.born (u : UW) (b : Nat) (w' : World) : UW := ⟨w', fun c => u.pub c ∨ c = b⟩
def UW.sto (u : UW) (w' : World) : UW := ⟨w', u.pub⟩
def UW.ret (u : UW) (lo : Nat) (w' : World) : UW := ⟨w', fun c => u.pub c ∨ (lo ≤ c ∧ c < w'.heap.size)⟩

def hasBox : List (Nat × Nat) → Nat → Nat → Bool
  | [], _, _ => false
  | (k, m) :: D, k', m' => (Nat.beq k k' && Nat.beq m m') || hasBox D k' m'

theorem beq_iff {a b : Nat} : Nat.beq a b = true ↔ a = b := ⟨Nat.eq_of_beq_eq_true, fun h => by subst h; exact Nat.beq_refl a⟩

theorem hasBox_iff {D : List (Nat × Nat)} {k m : Nat} : hasBox D k m = true ↔ (k, m) ∈ D := by
  induction D with
  | nil => simp [hasBox]
  | cons x D ih =>
    obtain ⟨a, b⟩ := x
    simp only [hasBox, Bool.or_eq_true, Bool.and_eq_true, beq_iff, ih, List.mem_cons, Prod.mk.injEq]
    constructor
    · rintro (⟨rfl, rfl⟩ | h)
      · exact .inl ⟨rfl, rfl⟩
      · exact .inr h
    · rintro (⟨rfl, rfl⟩ | h)
      · exact .inl ⟨rfl, rfl⟩
      · exact .inr h

def isBox : List (Nat × Nat) → Nat → Bool
  | [], _ => false
  | (k, _) :: D, k' => Nat.beq k k' || isBox D k'

theorem isBox_iff {D : List (Nat × Nat)} {k : Nat} : isBox D k = true ↔ ∃ m, (k, m) ∈ D := by
  induction D with
  | nil => simp [isBox]
  | cons x D ih =>
    obtain ⟨a, b⟩ := x
    simp only [isBox, Bool.or_eq_true, beq_iff, ih, List.mem_cons, Prod.mk.injEq]
    constructor
    · rintro (h | ⟨m, h⟩)
      · exact ⟨b, .inl ⟨h.symm, rfl⟩⟩
      · exact ⟨m, .inr h⟩
    · rintro ⟨m, ⟨rfl, _⟩ | h⟩
      · exact .inl rfl
      · exact .inr ⟨m, h⟩

/-- What the slot holds, typed. -/
def getD1 (st : St) : (x : Nat × Kd) → Option x.2.T
  | (t, .one k) => k.get (st.σ t)
  | (t, .agg ks) => match st.σ t with
    | .agg a => TLget ks a.toList
    | _ => none
  | (t, .box ks) => match st.σ t with
    | .complex .f64 k o => bif (Nat.beq k t && Nat.beq o 0) && hasBox st.D t ks.length then TLget ks (rdG st.σ t 0 ks.length) else none
    | _ => none

def getLive (st : St) : (l : Live) → Option (Tup l)
  | [] => some ()
  | [x] => getD1 st x
  | x :: y :: l => match getD1 st x, getLive st (y :: l) with
    | some a, some b => some (a, b)
    | _, _ => none

def setD1 (st : St) : (x : Nat × Kd) → x.2.T → St
  | (t, .one k), v => { st with σ := upd st.σ t (k.v v) }
  | (t, .agg ks), v => { st with σ := upd st.σ t (.agg (TLv ks v).toArray) }
  | (t, .box ks), v => { st with σ := wrG (upd st.σ t (fake t 0)) t 0 (TLv ks v), D := bif hasBox st.D t ks.length then st.D else (t, ks.length) :: st.D }

def setLive (st : St) : (l : Live) → Tup l → St
  | [], _ => st
  | [x], v => setD1 st x v
  | x :: y :: l, v => setLive (setD1 st x v.1) (y :: l) v.2

def memN : List Nat → Nat → Bool
  | [], _ => false
  | x :: l, y => Nat.beq x y || memN l y

theorem memN_iff {l : List Nat} {y : Nat} : memN l y = true ↔ y ∈ l := by
  induction l with
  | nil => simp [memN]
  | cons x l ih =>
    simp only [memN, Bool.or_eq_true, beq_iff, ih, List.mem_cons]
    exact ⟨fun h => h.imp Eq.symm id, fun h => h.imp Eq.symm id⟩

/-- What is carried, typed; the private boxes that are written and whose contents are not carried. -/
structure Cut where
  live : Live
  scrap : List (Nat × Nat)

def scrapG (σ : Fr) : List (Nat × Nat) → Fr
  | [] => σ
  | (k, m) :: l => scrapG (wrG (upd σ k (fake k 0)) k 0 (List.replicate m poison)) l

def isFake (v : Value) (k : Nat) : Bool :=
  match v with
  | .complex .f64 k' o => Nat.beq k' k && Nat.beq o 0
  | _ => false

def scrapOk (st : St) : List (Nat × Nat) → Bool
  | [] => true
  | (k, m) :: l => hasBox st.D k m && isFake (st.σ k) k && scrapOk st l

def pois (σ : Fr) (ws : List Nat) : Fr := fun t => bif Nat.blt t 65536 && memN ws t then poison else σ t

/-- The state behind a piece of code that writes the slots ws: those that are carried, typed; the others unknown. -/
def mix (st : St) (ws : List Nat) (c : Cut) (x : Tup c.live) : St :=
  setLive { st with σ := scrapG (pois st.σ ws) c.scrap } c.live x

def CIf (c : Bool) (A B : Prop) : Prop := match c with | true => A | false => B

theorem CIf_iff {c : Bool} {A B : Prop} : CIf c A B ↔ (c = true → A) ∧ (c = false → B) := by cases c <;> simp [CIf]

def CJoin {α β : Type} (A : (α → β → Prop) → Prop) (B : α → β → Prop) : Prop := ∃ J : α → β → Prop, A J ∧ ∀ s w, J s w → B s w

def LoopI {α β : Type} (body : (α → β → Prop) → α → β → Prop) (s : α) (w : β) : Prop :=
  ∃ I : Nat → α → β → Prop, (∃ n, I n s w) ∧ ∀ n s w, I n s w → body (fun s' w' => ∃ m, m < n ∧ I m s' w') s w

end Go.Eng

/-
  The engine, second part: what a piece of code asks of the state (W), by recursion on the code.
-/
namespace Go.Eng
open Go.RowKit

/-- The value of a computation that touches no memory. -/
def pv {α : Type} (P : Program) : Sem α → Option α
  | .pure a => some a
  | .program k => pv P (k P)
  | _ => none

/-- The new block that a computation makes first. -/
def pn {α : Type} (P : Program) : Sem α → Option (Obj × (Nat → Sem α))
  | .program k => pn P (k P)
  | .new o k => some (o, k)
  | _ => none

theorem pv_run {α : Type} {P : Program} : ∀ {s : Sem α} {a : α}, pv P s = some a → ∀ w, s.run P w = .ok a w
  | .pure a, b, h, w => by simp only [pv, Option.some.injEq] at h; subst h; rfl
  | .program k, b, h, w => by simp only [pv] at h; simp only [Sem.run]; exact pv_run h w
  | .load .., _, h, _ => by simp [pv] at h
  | .store .., _, h, _ => by simp [pv] at h
  | .new .., _, h, _ => by simp [pv] at h
  | .shape .., _, h, _ => by simp [pv] at h
  | .freeze .., _, h, _ => by simp [pv] at h
  | .frozen .., _, h, _ => by simp [pv] at h
  | .getObj .., _, h, _ => by simp [pv] at h
  | .setObj .., _, h, _ => by simp [pv] at h
  | .choose .., _, h, _ => by simp [pv] at h
  | .sys .., _, h, _ => by simp [pv] at h
  | .mark .., _, h, _ => by simp [pv] at h
  | .halt .., _, h, _ => by simp [pv] at h

theorem pn_run {α : Type} {P : Program} : ∀ {s : Sem α} {o : Obj} {k : Nat → Sem α}, pn P s = some (o, k) → ∀ w, s.run P w = (k w.heap.size).run P { w with heap := w.heap.push o }
  | .new o k, b, k', h, w => by simp only [pn, Option.some.injEq, Prod.mk.injEq] at h; obtain ⟨rfl, rfl⟩ := h; rfl
  | .program k, b, _, h, w => by simp only [pn] at h; simp only [Sem.run]; exact pn_run h w
  | .pure _, _, _, h, _ => by simp [pn] at h
  | .load .., _, _, h, _ => by simp [pn] at h
  | .store .., _, _, h, _ => by simp [pn] at h
  | .shape .., _, _, h, _ => by simp [pn] at h
  | .freeze .., _, _, h, _ => by simp [pn] at h
  | .frozen .., _, _, h, _ => by simp [pn] at h
  | .getObj .., _, _, h, _ => by simp [pn] at h
  | .setObj .., _, _, h, _ => by simp [pn] at h
  | .choose .., _, _, h, _ => by simp [pn] at h
  | .sys .., _, _, h, _ => by simp [pn] at h
  | .mark .., _, _, h, _ => by simp [pn] at h
  | .halt .., _, _, h, _ => by simp [pn] at h

structure Env where
  P : Program
  n : Nat
  priv : List Nat
  loops : List (Nat × Cut)
  joins : List (Nat × Cut)
  rngs : List (Nat × List TypeId) := []

def look {α : Type} : List (Nat × α) → Nat → Option α
  | [], _ => none
  | (k, x) :: l, i => bif Nat.beq k i then some x else look l i

/-! ### types -/
def kindsF (P : Program) : Nat → TypeId → Option (List K1)
  | 0, _ => none
  | f + 1, t => match P.underlying t with
    | some (.int k) => some [.int k]
    | some .bool => some [.bool]
    | some .string => some [.str]
    | some (.slice _) => some [.slice]
    | some (.pointer _) => some [.ptr]
    | some (.func ..) => some [.fn]
    | some (.map ..) => some [.map]
    | some (.struct fs) => fs.toList.foldr (fun x acc => match kindsF P f x.type, acc with | some a, some b => some (a ++ b) | _, _ => none) (some [])
    | some (.array n e) => match kindsF P f e with
      | some ks => some ((List.replicate n ks).flatten)
      | none => none
    | _ => none

def aggT (P : Program) (t : TypeId) : Bool :=
  match P.underlying t with
  | some (.struct _) | some (.array _ _) => true
  | _ => false

/-- The kinds of the cells of a variable of type t, if they are as many as it has. -/
def kinds (P : Program) (t : TypeId) : Option (List K1) :=
  match kindsF P 8 t with
  | some ks => bif Nat.beq ks.length (P.cellsOf t) then (bif aggT P t || Nat.beq ks.length 1 then some ks else none) else none
  | none => none

def mkV : Bool → List Value → Value
  | true, vs => .agg vs.toArray
  | false, [v] => v
  | _, _ => poison

/-- Typed existential over the value of a variable of type t. -/
def exV (P : Program) (t : TypeId) (F : Value → Prop) : Prop :=
  match kinds P t with
  | some ks => exL ks fun vs => F (mkV (aggT P t) vs)
  | none => False

def exVs (P : Program) : List TypeId → (List Value → Prop) → Prop
  | [], F => F []
  | t :: ts, F => exV P t fun v => exVs P ts fun vs => F (v :: vs)

/-- .. over what a call hands back. -/
def exR (P : Program) (t : TypeId) (F : Value → Prop) : Prop :=
  match P.underlying t with
  | some (.tuple ts) => exVs P ts.toList fun vs => F (.tuple vs.toArray)
  | _ => exV P t F

/-- The offset of a field. -/
def fOff (P : Program) (t : TypeId) (f : Nat) : Option Nat :=
  match P.underlying t with
  | some (.struct fs) => match fs[f]? with
    | some x => bif Nat.beq (P.cellsOf x.type) 0 then none else some x.offset
    | none => none
  | _ => none

def elemT (P : Program) (t : TypeId) : Option TypeId :=
  match P.underlying t with
  | some (.slice e) => some e
  | _ => none

/-! ### values -/
def withPtr (v : Value) (F : Nat → Nat → Prop) : Prop :=
  match v with
  | .pointer (some ⟨b, o, none⟩) => F b o
  | _ => False

def withSl (a : Option Addr) (F : Nat → Nat → Prop) : Prop :=
  match a with
  | some ⟨b, o, none⟩ => F b o
  | _ => False

def nn (a : Option Addr) (A : Prop) : Prop :=
  match a with
  | some _ => A
  | none => False

def strEq (a b : ByteArray) : Bool := a.toList == b.toList

theorem strEq_iff {a b : ByteArray} : strEq a b = true ↔ a = b := by
  unfold strEq
  rw [beq_iff_eq]
  constructor
  · intro h
    obtain ⟨⟨a⟩⟩ := a
    obtain ⟨⟨b⟩⟩ := b
    have ha : ∀ (l : List UInt8), (ByteArray.mk ⟨l⟩).toList = l := by
      intro l
      have : ∀ (n i : Nat) (r : List UInt8), n = (ByteArray.mk ⟨l⟩).size - i → ByteArray.toList.loop (ByteArray.mk ⟨l⟩) i r = r.reverse ++ l.drop i := by
        intro n
        induction n with
        | zero =>
          intro i r h
          rw [ByteArray.toList.loop.eq_def]
          have : ¬ i < (ByteArray.mk ⟨l⟩).size := by omega
          rw [if_neg this]
          have hs : (ByteArray.mk ⟨l⟩).size = l.length := rfl
          rw [List.drop_of_length_le (by omega)]
          simp
        | succ n ih =>
          intro i r h
          rw [ByteArray.toList.loop.eq_def]
          have hs : (ByteArray.mk ⟨l⟩).size = l.length := rfl
          have hi : i < (ByteArray.mk ⟨l⟩).size := by omega
          rw [if_pos hi, ih (i + 1) _ (by omega)]
          have hi' : i < l.length := by omega
          have hg : (ByteArray.mk ⟨l⟩).get! i = l[i] := by
            simp [ByteArray.get!, hi']
          rw [hg, List.drop_eq_getElem_cons hi']
          simp
      have h0 := this _ 0 [] rfl
      simpa [ByteArray.toList] using h0
    rw [ha, ha] at h
    subst h; rfl
  · rintro rfl; rfl

/-- Two structs' cells, one by one. -/
def eqs : List K1 → List Value → List Value → Option Bool
  | [], [], [] => some true
  | .int _ :: ks, .int k a :: xs, .int k' b :: ys => bif decide (k = k') then (match eqs ks xs ys with | some r => some ((a == b) && r) | none => none) else none
  | .bool :: ks, .bool a :: xs, .bool b :: ys => match eqs ks xs ys with | some r => some ((a == b) && r) | none => none
  | .str :: ks, .string a :: xs, .string b :: ys => match eqs ks xs ys with | some r => some (strEq a b && r) | none => none
  | _, _, _ => none

def eqTs (g : TypeId → Option (List K1)) : Nat → List Field → Option (List K1)
  | _, [] => some []
  | a, x :: fs => match g x.type with
    | some l => bif decide (x.name ≠ "_") && Nat.beq x.offset a then (match eqTs g (a + l.length) fs with | some r => some (l ++ r) | none => none) else none
    | none => none

/-- A type whose values are held against each other cell by cell. -/
def eqT (P : Program) : Nat → TypeId → Option (List K1)
  | 0, _ => none
  | f + 1, t => match P.underlying t with
    | some (.int k) => some [.int k]
    | some .bool => some [.bool]
    | some .string => some [.str]
    | some (.struct fs) => bif P.stoodInHeld t then none else match eqTs (eqT P f) 0 fs.toList with
      | some l => bif Nat.beq l.length (P.cellsOf t) then some l else none
      | none => none
    | _ => none

def intBin (op : BinOp) (k : IntKind) (a b : Int) (K : Value → Prop) : Prop :=
  match op with
  | .add => K (.int k (k.wrap (a + b)))
  | .sub => K (.int k (k.wrap (a - b)))
  | .mul => K (.int k (k.wrap (a * b)))
  | .quo => b ≠ 0 ∧ K (.int k (k.wrap (a.tdiv b)))
  | .rem => b ≠ 0 ∧ K (.int k (a.tmod b))
  | .eql => K (.bool (a == b))
  | .neq => K (.bool (a != b))
  | .lss => K (.bool (decide (a < b)))
  | .leq => K (.bool (decide (a ≤ b)))
  | .gtr => K (.bool (decide (a > b)))
  | .geq => K (.bool (decide (a ≥ b)))
  | _ => False

def strBin (op : BinOp) (a b : ByteArray) (K : Value → Prop) : Prop :=
  match op with
  | .add => a.size + b.size < 9223372036854775808 ∧ K (.string (a ++ b))
  | .eql => K (.bool (strEq a b))
  | .neq => K (.bool (!strEq a b))
  | .lss => K (.bool (Op.bytesLess a.toList b.toList))
  | .leq => K (.bool (Op.bytesLess a.toList b.toList || strEq a b))
  | .gtr => K (.bool (!(Op.bytesLess a.toList b.toList || strEq a b)))
  | .geq => K (.bool (!Op.bytesLess a.toList b.toList))
  | _ => False

def cBin (P : Program) (op : BinOp) (t : TypeId) (x y : Value) (K : Value → Prop) : Prop :=
  match x, y with
  | .int k a, .int k' b => bif decide (k = k') then intBin op k a b K else False
  | .string a, .string b => strBin op a b K
  | .bool a, .bool b => match P.underlying t with
    | some .bool => match op with
      | .eql => K (.bool (a == b))
      | .neq => K (.bool (!(a == b)))
      | _ => False
    | _ => False
  | .agg a, .agg b => match eqT P 8 t with
    | none => False
    | some ks => bif (Nat.beq ks.length a.size && Nat.beq ks.length b.size) && !P.eqGuardType P.depth t && aggT P t then
      (match eqs ks a.toList b.toList with
      | some r => match op with
        | .eql => K (.bool r)
        | .neq => K (.bool (!r))
        | _ => False
      | none => False) else False
  | .pointer a, .pointer none => match P.underlying t with
    | some (.pointer _) => match op with
      | .eql => K (.bool a.isNone)
      | .neq => K (.bool (!a.isNone))
      | _ => False
    | _ => False
  | .slice a _ _, .slice none _ _ => match P.underlying t with
    | some (.slice _) => match op with
      | .eql => K (.bool a.isNone)
      | .neq => K (.bool (!a.isNone))
      | _ => False
    | _ => False
  | .func _ _ _, .nilFunc => match P.underlying t with
    | some (.func ..) => match op with
      | .eql => K (.bool false)
      | .neq => K (.bool true)
      | _ => False
    | _ => False
  | _, _ => False

/-! ### the world -/
structure Born (w w' : World) (b : Nat) (o : Obj) : Prop where
  below : Below w.heap.size w w'
  at_ : w'.heap[b]? = some o
  ge : w.heap.size ≤ b

structure Sto (w w' : World) (b : Nat) (o : Obj) : Prop where
  os : w'.os = w.os
  tape : w'.tape = w.tape
  output : w'.output = w.output
  size : w.heap.size ≤ w'.heap.size
  at_ : w'.heap[b]? = some o
  ne : ∀ c, c ≠ b → c < w.heap.size → w'.heap[c]? = w.heap[c]?

structure Mod (F : Nat → Prop) (w w' : World) : Prop where
  os : w'.os = w.os
  tape : w'.tape = w.tape
  output : w'.output = w.output
  size : w.heap.size ≤ w'.heap.size
  keep : ∀ b, b < w.heap.size → ¬ F b → w'.heap[b]? = w.heap[b]?

/-- What stands in the engine's world where a block is not its to know. -/
@[reducible] def masked : Obj := .cells #[] 0 (0, 0)

/-- The engine's world, and the machine's. -/
structure Sees (w w1 : World) : Prop where
  os : w1.os = w.os
  tape : w1.tape = w.tape
  output : w1.output = w.output
  size : w.heap.size ≤ w1.heap.size
  block : ∀ b, b < w.heap.size → w.heap[b]? = w1.heap[b]? ∨ w.heap[b]? = some masked

structure Out (F : Nat → Prop) (w w1 w' wr : World) : Prop where
  mod : Mod F w1 wr
  sees : Sees w' wr
  umod : Mod F w w'
  hid : ∀ b, w.heap.size ≤ b → b < w1.heap.size → b < w'.heap.size → w'.heap[b]? = some masked

/-- Function f, called in whatever world that w shows, hands back v; of what was there it has touched the blocks of F at most; what it has made lies from 'lo' on. -/
def FnB (P : Program) (f : FuncId) (args : Array Value) (w : World) (F : Nat → Prop) (K : Value → Nat → World → Prop) : Prop :=
  ∀ w1, Sees w w1 → Calls P f args w1 fun e wr => ∃ v w', e = .returned v ∧ Out F w w1 w' wr ∧ K v w1.heap.size w'

def CallF (P : Program) (f : FuncId) (args : Array Value) (u : UW) (K : Value → UW → Prop) : Prop :=
  ∃ F : Nat → Prop, (∀ b, F b → u.pub b) ∧ FnB P f args u.toWorld F fun v lo w' => K v (u.ret lo w')

def callable (P : Program) (f : FuncId) : Bool :=
  match P.funcs[f]? with
  | some fn => !(fn.name == "runtime.NumGoroutine") && fn.body.isSome
  | none => false

/-- A round of a loop over a function, by a call of its yield. -/
def YCalls (P : Program) (l : Nat) (args : List Value) (w : World) (R : Ending → World → Prop) : Prop :=
  ∃ r : Loop, w.heap[l]? = some (.loop r) ∧ args.length = r.params.size ∧ RoundIn Fence.wide 0 P l r.fn ((r.params.zip args.toArray).foldl (fun t (p, v) => t.setIfInBounds p v) r.tmps) r.assign r.body w R

def VCalls (P : Program) (f : Value) (args : List Value) (w : World) (R : Ending → World → Prop) : Prop :=
  match f with
  | .func (.func g) first captured => callable P g = true ∧ Calls P g (first.toList ++ args ++ captured.toList).toArray w R
  | .func (.yield l) first captured => first = #[] ∧ captured = #[] ∧ YCalls P l args w R
  | _ => False

/-- As FnB, of a function value. -/
def ValB (P : Program) (f : Value) (args : List Value) (w : World) (F : Nat → Prop) (K : Value → Nat → World → Prop) : Prop :=
  ∀ w1, Sees w w1 → VCalls P f args w1 fun e wr => ∃ v w', e = .returned v ∧ Out F w w1 w' wr ∧ K v w1.heap.size w'

/-- A function value, called. -/
def CallV (P : Program) (f : Value) (args : List Value) (u : UW) (K : Value → UW → Prop) : Prop :=
  match f with
  | .func (.func g) first captured => bif callable P g then CallF P g (first.toList ++ args ++ captured.toList).toArray u K else False
  | f => ∃ F : Nat → Prop, (∀ b, F b → u.pub b) ∧ ValB P f args u.toWorld F fun v lo w' => K v (u.ret lo w')

def fnOk (f : Fn) (A : Prop) : Prop := match f with | .method _ => False | _ => A

def isLoop : Obj → Bool | .loop _ => true | _ => false

/-- A loop over a function: the record l is laid; yield runs the body; the pending jump. -/
def RangeF (P : Program) (f : Value) (body : List Value → (Option Code → UW → Prop) → UW → Prop) (K : Option Code → UW → Prop) (u : UW) : Prop :=
  (∃ g a b, f = .func (.func g) a b) ∧ ∀ (l : Nat) (rec : Option Code → Obj) (w' : World), (∀ p, isLoop (rec p) = true) → Born u.toWorld w' l (rec none) →
    (∀ (vs : List Value) (w1 : World) (F : Nat → Prop) (R : Option Code → UW → Prop), w1.heap[l]? = some (rec none) → (∀ b, F b → b < w1.heap.size ∧ b ≠ l) → body vs R ⟨w1.putObj l masked, F⟩ →
      ValB P (.func (.yield l) #[] #[]) vs w1 (fun b => F b ∨ b = l) fun v lo w2 => ∃ p pub w3, v = .bool p.isNone ∧ w2 = w3.putObj l (rec p) ∧ w3.heap[l]? = some masked ∧ (∀ b, pub b → F b ∨ lo ≤ b) ∧ R p ⟨w3, pub⟩) →
    CallV P f [.func (.yield l) #[] #[]] (u.born l w') fun _ u' => ∃ p, u'.heap[l]? = some (rec p) ∧ K p ⟨u'.toWorld.putObj l masked, fun b => u'.pub b ∧ b ≠ l⟩

def wrA (c : Array Value) : Nat → List Value → Array Value
  | _, [] => c
  | o, v :: vs => wrA (c.setIfInBounds o v) (o + 1) vs

def cStore (b o : Nat) (vs : List Value) (u : UW) (K : UW → Prop) : Prop :=
  ∃ (c : Array Value) (T : TypeId), u.heap[b]? = some (.cells c T (0, 0)) ∧ o + vs.length ≤ c.size ∧ u.pub b ∧
    ∀ w', Sto u.toWorld w' b (.cells (wrA c o vs) T (0, 0)) → K (u.sto w')

def fin (o : Oper) (st : St) (v : Value) : St := { st with σ := put st.σ o.dst v }

def boxSize : List (Nat × Nat) → Nat → Option Nat
  | [], _ => none
  | (k, m) :: D, k' => bif Nat.beq k k' then some m else boxSize D k'

def allPlain (vs : List Value) : Bool := vs.all fun v => plain v && one v

/-- The address of a slice that is cut from l on (m is its new end of capacity). -/
def slA (a : Option Addr) (l m size : Nat) : Option Addr := if m = l then a else a.map fun x => ⟨x.block, x.off + l * size, none⟩

def optInt (ρ : Operand → Value) (x : Option Operand) (d : Int) : Option Int :=
  match x with
  | none => some d
  | some x => match ρ x with
    | .int _ i => some i
    | _ => none

def noSpot (a : Option Addr) : Prop := ∀ x, a = some x → x.spot = none

/-- append: what was there, what comes, room or no room. -/
def cApp (P : Program) (e : TypeId) (base : Option Addr) (n cap : Nat) (xb : Option Addr) (m : Nat) (u : UW) (K : Option Addr → Nat → Nat → UW → Prop) : Prop :=
  ∃ (size bytes : Nat) (zero : List Value) (old new : List Value),
    (P.info? e).map (fun i => (i.size, i.bytes, i.zero.map fun z => z.cells.toList)) = some (size, bytes, some zero) ∧
    (m = 0 → new = []) ∧ (m ≠ 0 → withSl xb fun b o => rd u.heap b o (m * size) = some new) ∧
    (n = 0 → old = []) ∧ (n ≠ 0 → withSl base fun b o => rd u.heap b o (n * size) = some old) ∧
    n ≤ cap ∧ (n + m) * bytes ≤ 140737488355328 ∧ n + m < 4611686018427387904 ∧ zero.length = size ∧ (∀ v ∈ new, one v = true) ∧
    (n + m ≤ cap → (m = 0 ∧ K base n cap u) ∨ (m ≠ 0 ∧ withSl base fun b o => cStore b (o + n * size) new u fun u' => K base (n + m) cap u')) ∧
    (cap < n + m → ∀ (c b : Nat) (rest : List Value) (w' : World), n + m ≤ c → rest.length = (c - (n + m)) * size → Born u.toWorld w' b (.cells (old ++ new ++ rest).toArray e (0, 0)) →
      K (some ⟨b, 0, none⟩) (n + m) c (u.born b w'))

def intsOf (ρ : Operand → Value) : List Operand → Option (IntKind × List Int)
  | [] => none
  | [x] => match ρ x with | .int k i => some (k, [i]) | _ => none
  | x :: l => match ρ x, intsOf ρ l with
    | .int k i, some (k', is) => bif decide (k = k') then some (k, i :: is) else none
    | _, _ => none

/-- A struct out of its parts. -/
def bldS (P : Program) (fs : Array Field) : List (Nat × Value) → List Value → Option (List Value)
  | [], cs => some cs
  | (i, v) :: ps, cs => match fs[i]? with
    | some f => bif Nat.beq v.cells.size (P.cellsOf f.type) && Nat.ble (f.offset + v.cells.size) cs.length && (P.info? f.type).isSome then
        bldS P fs ps (cs.take f.offset ++ v.cells.toList ++ cs.drop (f.offset + v.cells.size)) else none
    | none => none

/-- A slice out of all its parts, in order. -/
def bldL (size : Nat) : Nat → List (Nat × Value) → Option (List Value)
  | _, [] => some []
  | i, (j, v) :: ps => bif Nat.beq i j && Nat.beq v.cells.size size then (match bldL size (i + 1) ps with | some l => some (v.cells.toList ++ l) | none => none) else none

def bld (P : Program) (t : TypeId) (ps : List (Nat × Value)) : Option (List Value) :=
  match (P.info? t).bind (·.zero), P.underlying t with
  | some z, some (.struct fs) => bif fs.toList.all fun f => (P.info? f.type).isSome then bldS P fs ps z.cells.toList else none
  | some z, some (.array len e) => bif (P.info? e).isSome && Nat.beq ps.length len && Nat.beq z.cells.size (len * P.cellsOf e) then bldL (P.cellsOf e) 0 ps else none
  | _, _ => none

/-- An element of an array. -/
def eltV (P : Program) (e : TypeId) (off : Nat) (cs : List Value) : Option Value :=
  bif (P.underlying e).isSome && Nat.ble (off + P.cellsOf e) cs.length then (bif aggT P e then some (.agg ((cs.drop off).take (P.cellsOf e)).toArray) else cs[off]?) else none

def fldV (P : Program) (t : TypeId) (f : Nat) (cs : List Value) : Option Value :=
  match P.underlying t with
  | some (.struct fs) => match fs[f]? with
    | some x => bif (P.underlying x.type).isSome && Nat.ble (x.offset + P.cellsOf x.type) cs.length then
        (bif aggT P x.type then some (.agg ((cs.drop x.offset).take (P.cellsOf x.type)).toArray) else cs[x.offset]?) else none
    | none => none
  | _ => none

/-- A builtin's call. -/
def W1b (E : Env) (o : Oper) (st : St) (w : UW) (b : Builtin) (args : List Operand) (ts : List TypeId) (K : St → UW → Prop) : Prop :=
  match b, args, ts with
  | .len, [x], [t] => match E.P.underlying t, ev st.σ x with
    | some (.slice _), .slice _ n _ => K (fin o st (.int .i64 n)) w
    | some .string, .string s => K (fin o st (.int .i64 s.size)) w
    | some (.array n _), v => bif plain v then K (fin o st (.int .i64 n)) w else False
    | _, _ => False
  | .append, [x, y], [t, t'] => match E.P.underlying t, E.P.underlying t', ev st.σ x, ev st.σ y with
    | some (.slice e), some (.slice _), .slice base n cap, .slice xb m _ => cApp E.P e base n cap xb m w fun a n' c' w' => K (fin o st (.slice a n' c')) w'
    | _, _, _, _ => False
  | .min, xs, _ => match intsOf (ev st.σ) xs with
    | some (k, i :: is) => K (fin o st (.int k (is.foldl (fun x y => if y < x then y else x) i))) w
    | _ => False
  | .max, xs, _ => match intsOf (ev st.σ) xs with
    | some (k, i :: is) => K (fin o st (.int k (is.foldl (fun x y => if y > x then y else x) i))) w
    | _ => False
  | _, _, _ => False

/-- One operation. -/
def W1 (E : Env) (fz : List Nat) (o : Oper) (st : St) (w : UW) (K : St → UW → Prop) : Prop :=
  let ρ := ev st.σ
  match o.op with
  | .move x | .assign x => K (fin o st (ρ x)) w
  | .pick c a b => match ρ c with
    | .bool t => CIf t (K (fin o st (ρ a)) w) (K (fin o st (ρ b)) w)
    | _ => False
  | .alloc t => match (E.P.info? t).bind (·.zero) with
    | none => False
    | some z => match o.dst with
      | none => False
      | some k => bif memN E.priv k then
          (bif !isBox st.D k && !memN fz k && allPlain z.cells.toList && Nat.ble z.cells.size 65536 then
            K { st with σ := wrG (upd st.σ k (fake k 0)) k 0 z.cells.toList, D := (k, z.cells.size) :: st.D } w else False)
        else ∀ (b : Nat) (w' : World), Born w.toWorld w' b (.cells z.cells t (0, 0)) → K (fin o st (.pointer (some ⟨b, 0, none⟩))) (w.born b w')
  | .box t x => bif plain (ρ x) then match o.dst with
      | none => False
      | some k => bif memN E.priv k then
          (bif !isBox st.D k && !memN fz k && allPlain (ρ x).cells.toList && Nat.ble (ρ x).cells.size 65536 then
            K { st with σ := wrG (upd st.σ k (fake k 0)) k 0 (ρ x).cells.toList, D := (k, (ρ x).cells.size) :: st.D } w else False)
        else ∀ (b : Nat) (w' : World), Born w.toWorld w' b (.cells (ρ x).cells t (0, 0)) → K (fin o st (.pointer (some ⟨b, 0, none⟩))) (w.born b w')
      else False
  | .build t ps => bif ps.toList.all fun p => plain (ρ p.2) then match bld E.P t (ps.toList.map fun p => (p.1, ρ p.2)) with
      | some vs => K (fin o st (.agg vs.toArray)) w
      | none => False else False
  | .buildSlice t len ps => bif (ps.toList.all fun p => plain (ρ p.2)) && Nat.beq ps.toList.length len then match elemT E.P t with
      | none => False
      | some e => match bldL (E.P.cellsOf e) 0 (ps.toList.map fun p => (p.1, ρ p.2)) with
        | some vs => bif Nat.ble vs.length 65536 && ((E.P.info? e).bind (·.zero)).isSome && !Nat.beq (E.P.cellsOf e) 0 then
            ∀ (b : Nat) (w' : World), Born w.toWorld w' b (.cells vs.toArray e (0, 0)) → K (fin o st (.slice (some ⟨b, 0, none⟩) len len)) (w.born b w') else False
        | none => False else False
  | .load t x => match kinds E.P t with
    | none => False
    | some ks => match ρ x with
      | .complex .f64 k off => match boxSize st.D k with
        | some m => bif Nat.ble (off + ks.length) m && allPlain (rdG st.σ k off ks.length) then K (fin o st (mkV (aggT E.P t) (rdG st.σ k off ks.length))) w else False
        | none => False
      | v => withPtr v fun b off => exL ks fun vs => rd w.heap b off ks.length = some vs ∧ K (fin o st (mkV (aggT E.P t) vs)) w
  | .store t x y => bif plain (ρ y) && Nat.beq (ρ y).cells.size (E.P.cellsOf t) && allPlain (ρ y).cells.toList && (E.P.info? t).isSome then match ρ x with
      | .complex .f64 k off => match boxSize st.D k with
        | some m => bif Nat.ble (off + (ρ y).cells.size) m && !memN fz k then K { st with σ := put (wrG st.σ k off (ρ y).cells.toList) o.dst undef } w else False
        | none => False
      | v => withPtr v fun b off => cStore b off (ρ y).cells.toList w fun w' => K (fin o st undef) w'
      else False
  | .nilCheck x => match ρ x with
    | .complex .f64 k off => K (fin o st (fake k off)) w
    | .pointer a => nn a (K (fin o st (.pointer a)) w)
    | .func f a b => fnOk f (K (fin o st (.func f a b)) w)
    | _ => False
  | .binOp op t x y _ => cBin E.P op t (ρ x) (ρ y) fun v => K (fin o st v) w
  | .unOp op _ x => match op, ρ x with
    | .not, .bool b => K (fin o st (.bool (!b))) w
    | .neg, .int k n => K (fin o st (.int k (k.wrap (0 - n)))) w
    | _, _ => False
  | .convert src dst x => bif plain (ρ x) then match pv E.P (convert src dst (ρ x)) with
      | some v => bif plain v then K (fin o st v) w else False
      | none => False else False
  | .makeInterface t x => bif plain (ρ x) then match pv E.P (Instr.makeInterface t (ρ x)) with
      | some v => bif plain v then K (fin o st v) w else False
      | none => False else False
  | .makeSlice t x y => match E.P.underlying t, ρ x, ρ y with
    | some (.slice e), .int _ i, .int _ j => match (E.P.info? e).map (fun i => (i.size, i.bytes, i.zero.map fun z => z.cells.toList)) with
      | some (size, bytes, some zero) => bif Nat.beq zero.length size && !Nat.beq size 0 then
          0 ≤ i ∧ i ≤ j ∧ j < 4611686018427387904 ∧ j.toNat * bytes ≤ 140737488355328 ∧
          ∀ (b : Nat) (w' : World), Born w.toWorld w' b (.cells (List.replicate j.toNat zero).flatten.toArray e (0, 0)) → K (fin o st (.slice (some ⟨b, 0, none⟩) i.toNat j.toNat)) (w.born b w') else False
      | _ => False
    | _, _, _ => False
  | .makeFunc fn first captured => bif first.toList.all (fun x => plain (ρ x)) && captured.toList.all (fun x => plain (ρ x)) then
      K (fin o st (.func fn (first.toList.map ρ).toArray (captured.toList.map ρ).toArray)) w else False
  | .slice t x lo hi mx => match E.P.underlying t, ρ x with
    | some (.slice e), .slice a len cap => match optInt ρ lo 0, optInt ρ hi len, optInt ρ mx cap with
      | some l, some h, some m => (bif (mx.isSome && hi.isNone) || (E.P.info? e).isNone then False else (m.toNat = l.toNat ∨ noSpot a) ∧ 0 ≤ l ∧ l ≤ h ∧ h ≤ m ∧ m ≤ cap ∧ K (fin o st (.slice (slA a l.toNat m.toNat (E.P.cellsOf e)) (h.toNat - l.toNat) (m.toNat - l.toNat))) w)
      | _, _, _ => False
    | some .string, .string s => match mx with
      | some _ => False
      | none => match optInt ρ lo 0, optInt ρ hi s.size with
        | some l, some h => 0 ≤ l ∧ l ≤ h ∧ h ≤ s.size ∧ K (fin o st (.string (s.extract l.toNat h.toNat))) w
        | _, _ => False
    | _, _ => False
  | .fieldAddr t x f => match fOff E.P t f with
    | none => False
    | some d => match ρ x with
      | .complex .f64 k off => K (fin o st (fake k (off + d))) w
      | v => withPtr v fun b off => K (fin o st (.pointer (some ⟨b, off + d, none⟩))) w
  | .field t x f => match ρ x with
    | .agg cs => match fldV E.P t f cs.toList with
      | some v => bif plain v then K (fin o st v) w else False
      | none => False
    | _ => False
  | .indexAddr t x i => match E.P.underlying t, ρ x, ρ i with
    | some (.slice e), .slice a len _, .int _ j => bif (E.P.info? e).isSome then withSl a fun b off => 0 ≤ j ∧ j < len ∧ K (fin o st (.pointer (some ⟨b, off + j.toNat * E.P.cellsOf e, none⟩))) w else False
    | some (.array len e), .complex .f64 k off, .int _ j => bif decide (0 ≤ j) && decide (j < len) && (E.P.info? e).isSome then K (fin o st (fake k (off + j.toNat * E.P.cellsOf e))) w else False
    | _, _, _ => False
  | .index t x i => match E.P.underlying t, ρ x, ρ i with
    | some .string, .string s, .int _ j => 0 ≤ j ∧ ∃ c : UInt8, s[j.toNat]? = some c ∧ K (fin o st (.int .u8 c.toNat)) w
    | some (.array len e), .agg cs, .int _ j => 0 ≤ j ∧ j < len ∧ (E.P.info? e).isSome = true ∧ ∃ v, eltV E.P e (j.toNat * E.P.cellsOf e) cs.toList = some v ∧ plain v = true ∧ K (fin o st v) w
    | _, _, _ => False
  | .extract x i => match ρ x with
    | .tuple vs => match vs[i]? with
      | some v => bif plain v then K (fin o st v) w else False
      | none => False
    | _ => False
  | .call c => match c.callee with
    | .builtin b => W1b E o st w b c.args.toList c.argTypes.toList K
    | .value f => bif c.args.toList.all (fun x => plain (ρ x)) then
        CallV E.P (ρ f) (c.args.toList.map ρ) w fun v w' => exR E.P o.type fun v' => v = v' ∧ K (fin o st v') w' else False
    | .invoke x name => bif c.args.toList.all (fun x => plain (ρ x)) then match ρ x with
        | .iface t r => match pv E.P (method (E.P.types.size + Made.depth) t r name) with
          | some (g, r') => bif callable E.P g then CallF E.P g (r' :: c.args.toList.map ρ).toArray w fun v w' => exR E.P o.type fun v' => v = v' ∧ K (fin o st v') w' else False
          | none => False
        | _ => False else False
  | _ => False

/-- The slot that a guard looks at. -/
def gslot (ops : Array Oper) (j : Nat) : Option Nat := (ops[j]?).bind (·.dst)

/-- The operations of a region, one behind the other. -/
def Wl (E : Env) (fz : List Nat) (ops : Array Oper) (Q : St → UW → Prop) : List Oper → St → UW → Prop
  | [], st, w => Q st w
  | o :: l, st, w => match o.guard with
    | none => W1 E fz o st w fun st' w' => Wl E fz ops Q l st' w'
    | some (j, b) => match gslot ops j with
      | none => False
      | some g => match st.σ g with
        | .bool c => CIf c
            ((fun st1 => CIf b (W1 E fz o st1 w fun st' w' => Wl E fz ops Q l st' w') (Wl E fz ops Q l (fin o st1 undef) w)) { st with σ := upd st.σ g (.bool true) })
            ((fun st1 => CIf b (Wl E fz ops Q l (fin o st1 undef) w) (W1 E fz o st1 w fun st' w' => Wl E fz ops Q l st' w')) { st with σ := upd st.σ g (.bool false) })
        | .tuple _ => Wl E fz ops Q l (fin o st undef) w
        | _ => False

/-! ### regions that draw their order -/
/-- An operation that touches no memory, or only reads it. -/
def takeable (o : Oper) : Bool :=
  match o.op with
  | .move _ | .assign _ | .pick .. | .build .. | .load .. | .binOp .. | .unOp .. | .convert .. | .makeInterface .. | .makeFunc .. | .slice .. | .fieldAddr .. | .field .. | .indexAddr .. | .index .. | .extract .. | .nilCheck _ => true
  | .call ⟨.builtin .len, _, _⟩ | .call ⟨.builtin .min, _, _⟩ | .call ⟨.builtin .max, _, _⟩ => true
  | _ => false

/-- An operation that reads memory. -/
def reads (o : Oper) : Bool :=
  match o.op with
  | .load _ _ => true
  | _ => false
def readsI (ops : Array Oper) (i : Nat) : Bool := match ops[i]? with | some o => reads o | none => false

/-- What must come ahead of number j. -/
def preds (ops : Array Oper) (j : Nat) : List Nat :=
  match ops[j]? with
  | none => []
  | some o => (o.after.toList.filter fun e => Region.binds .any e).map (·.on)
def sweep (ops : Array Oper) : Nat → List Nat → List Nat
  | 0, S => S
  | i + 1, S => sweep ops i (bif memN S i then preds ops i ++ S else S)
def ances (ops : Array Oper) (j : Nat) : List Nat := sweep ops ops.size (preds ops j)

def lateIn (ops : Array Oper) (j : Nat) (S : List Nat) : Bool :=
  (List.range ops.size).any fun x => !Nat.beq x j && readsI ops x && !memN S x

/-- May an operation that only reads come behind number j? -/
def late (ops : Array Oper) (j : Nat) : Bool := lateIn ops j (ances ops j)

/-- Does it make a new block? -/
def isNew (o : Oper) : Bool := match o.op with | .alloc _ | .box _ _ | .buildSlice _ _ _ => true | _ => false
def newI (ops : Array Oper) (i : Nat) : Bool := match ops[i]? with | some o => isNew o | none => false
/-- .. and it is not just a new block that comes up. -/
def hard (ops : Array Oper) (j : Nat) : Bool := late ops j && !newI ops j

/-- In which order the operations are looked at: what only reads (tk), the one that may come up (ef), two that may (ef2), three (ef3). -/
inductive Plan where
  | nil
  | tk (i : Nat) (p : Plan)
  | ef (i : Nat) (p : Plan)
  | ef2 (i : Nat) (p : Plan) (j : Nat) (q : Plan)
  | ef3 (i : Nat) (p : Plan) (j : Nat) (q : Plan) (k : Nat) (r : Plan)

def anyTake (ops : Array Oper) : Plan → Bool
  | .nil => false
  | .tk i p => readsI ops i || anyTake ops p
  | .ef _ p => anyTake ops p
  | .ef2 _ p _ q => anyTake ops p || anyTake ops q
  | .ef3 _ p _ q _ r => anyTake ops p || anyTake ops q || anyTake ops r

def anyLate (ops : Array Oper) : Plan → Bool
  | .nil => false
  | .tk _ p => anyLate ops p
  | .ef i p => hard ops i || anyLate ops p
  | .ef2 i p j q => (hard ops i || anyLate ops p) || (hard ops j || anyLate ops q)
  | .ef3 i p j q k r => (hard ops i || anyLate ops p) || (hard ops j || anyLate ops q) || (hard ops k || anyLate ops r)

def findTake (ops : Array Oper) (listed : Array Bool) : List Nat → Option Nat
  | [] => none
  | i :: l => bif (match ops[i]? with | some o => takeable o | none => false) && Region.free .any ops listed i then some i else findTake ops listed l

def okAfter (ops : Array Oper) (i : Nat) (p : Plan) : Bool := hard ops i || (newI ops i || (!anyTake ops p && !anyLate ops p))

def planF (ops : Array Oper) : Nat → Array Bool → Option Plan
  | 0, listed => match Region.ready .any ops listed with
    | [] => some .nil
    | _ => none
  | f + 1, listed => match Region.ready .any ops listed with
    | [] => some .nil
    | i :: rs => match findTake ops listed (i :: rs) with
      | some j => match planF ops f (listed.setIfInBounds j true) with
        | some p => some (.tk j p)
        | none => none
      | none => match rs with
        | [] => match planF ops f (listed.setIfInBounds i true) with
          | some p => bif okAfter ops i p then some (.ef i p) else none
          | none => none
        | [j] => match planF ops f (listed.setIfInBounds i true), planF ops f (listed.setIfInBounds j true) with
          | some p, some q => bif okAfter ops i p && okAfter ops j q then some (.ef2 i p j q) else none
          | _, _ => none
        | [j, k] => match planF ops f (listed.setIfInBounds i true), planF ops f (listed.setIfInBounds j true), planF ops f (listed.setIfInBounds k true) with
          | some p, some q, some r => bif okAfter ops i p && okAfter ops j q && okAfter ops k r then some (.ef3 i p j q k r) else none
          | _, _, _ => none
        | _ => none

def privOp (priv : List Nat) (o : Oper) : Bool :=
  match o.op, o.dst with
  | .alloc _, some k | .box _ _, some k => memN priv k
  | _, _ => false

def mkPlan (ops : Array Oper) : Option Plan :=
  bif Region.noSelect ops then planF ops ops.size (Array.replicate ops.size false) else none

/-- An operation that only reads, or makes a new block: it turns nothing. -/
def nonhard (ops : Array Oper) (j : Nat) : Bool := match ops[j]? with | some o => takeable o || isNew o | none => false

/-- Nothing that turns something may come up ahead of what is kept back. -/
def vacQ (ops : Array Oper) (listed : Array Bool) (blk : List Nat) : Bool :=
  (List.range ops.size).all fun h => listed.getD h true || (nonhard ops h || (ances ops h).any fun x => memN blk x)

/-- A region whose loads may come behind effects: a load is taken (tk, ld), or kept back (the second of ld) till something has been turned. -/
inductive PlanQ where
  | nil
  | tk (i : Nat) (q : PlanQ)
  | ld (i : Nat) (q r : PlanQ)
  | alt (i : Nat) (q r : PlanQ)
  | done

def takI (ops : Array Oper) (i : Nat) (d : Bool) : Bool := match ops[i]? with | some o => takeable o | none => d

def takeQ (ops : Array Oper) (listed : Array Bool) (blk : List Nat) : List Nat → Option Nat
  | [] => none
  | i :: l => bif (match ops[i]? with | some o => takeable o && (!reads o || vacQ ops listed (i :: blk)) | none => false) && (Region.free .any ops listed i && !memN blk i) then some i else takeQ ops listed blk l

def loadQ (ops : Array Oper) (listed : Array Bool) (blk : List Nat) : List Nat → Option Nat
  | [] => none
  | i :: l => bif (match ops[i]? with | some o => takeable o | none => false) && (Region.free .any ops listed i && !memN blk i) then some i else loadQ ops listed blk l

def altsQ (ops : Array Oper) (blk : List Nat) (f : Nat → Option PlanQ) : List Nat → Option PlanQ
  | [] => some .done
  | i :: l => bif memN blk i then altsQ ops blk f l else
    bif takI ops i true then none else match f i with
    | none => none
    | some q => match altsQ ops blk f l with
      | none => none
      | some r => some (.alt i q r)

def planQ (ops : Array Oper) : Nat → Array Bool → List Nat → Option PlanQ
  | 0, _, _ => none
  | g + 1, listed, blk => match Region.ready .any ops listed with
    | [] => some .nil
    | l => match takeQ ops listed blk l with
      | some j => match planQ ops g (listed.setIfInBounds j true) blk with
        | some q => some (.tk j q)
        | none => none
      | none => match loadQ ops listed blk l with
        | some j => match planQ ops g (listed.setIfInBounds j true) blk, planQ ops g listed (j :: blk) with
          | some q, some r => some (.ld j q r)
          | _, _ => none
        | none => altsQ ops blk (fun i => planQ ops g (listed.setIfInBounds i true) (bif nonhard ops i then blk else [])) l

def mkPlanQ (ops : Array Oper) : Option PlanQ :=
  bif Region.noSelect ops then planQ ops (2 * (ops.size * ops.size) + 2) (Array.replicate ops.size false) [] else none

/-- Is a region of that kind? (It stands among the numbers of private boxes.) -/
def isQ (priv : List Nat) (id : Nat) : Bool := memN priv (1000000 + id)

/-- Nothing that the world u0 shows has turned. -/
def Same (u0 u : UW) : Prop := Below u0.heap.size u0.toWorld u.toWorld

/-- An operation under its guard. -/
def guarded (ops : Array Oper) (o : Oper) (st : St) (act skip : St → Prop) : Prop :=
  match o.guard with
  | none => act st
  | some (j, b) => match gslot ops j with
    | none => False
    | some g => match st.σ g with
      | .bool c => CIf c
          ((fun st1 => CIf b (act st1) (skip st1)) { st with σ := upd st.σ g (.bool true) })
          ((fun st1 => CIf b (skip st1) (act st1)) { st with σ := upd st.σ g (.bool false) })
      | .tuple _ => skip st
      | _ => False

def stepT (E : Env) (fz : List Nat) (ops : Array Oper) (u0 : UW) (i : Nat) (st : St) (K : St → Prop) : Prop :=
  match ops[i]? with
  | none => False
  | some o => guarded ops o st (fun st1 => W1 E fz o st1 u0 fun st' _ => K st') (fun st1 => K (fin o st1 undef))

def stepE (E : Env) (fz : List Nat) (ops : Array Oper) (u0 : UW) (i : Nat) (st : St) (u : UW) (K : St → UW → Prop) : Prop :=
  match ops[i]? with
  | none => False
  | some o => bif privOp E.priv o then False else guarded ops o st
      (fun st1 => bif hard ops i then W1 E (fz ++ st1.D.map (·.1)) o st1 u (fun st' u' => Same u0 u' ∧ K st' u') else W1 E fz o st1 u K)
      (fun st1 => K (fin o st1 undef) u)

def Wd (E : Env) (fz : List Nat) (ops : Array Oper) (u0 : UW) (Q : St → UW → Prop) : Plan → St → UW → Prop
  | .nil, st, u => Q st u
  | .tk i p, st, u => stepT E fz ops u0 i st fun st' => Wd E fz ops u0 Q p st' u
  | .ef i p, st, u => stepE E fz ops u0 i st u fun st' u' => Wd E fz ops u0 Q p st' u'
  | .ef2 i p j q, st, u => (stepE E fz ops u0 i st u fun st' u' => Wd E fz ops u0 Q p st' u') ∧ (stepE E fz ops u0 j st u fun st' u' => Wd E fz ops u0 Q q st' u')
  | .ef3 i p j q k r, st, u => (stepE E fz ops u0 i st u fun st' u' => Wd E fz ops u0 Q p st' u') ∧ (stepE E fz ops u0 j st u fun st' u' => Wd E fz ops u0 Q q st' u') ∧ (stepE E fz ops u0 k st u fun st' u' => Wd E fz ops u0 Q r st' u')

def stepQ (E : Env) (fz : List Nat) (ops : Array Oper) (i : Nat) (st : St) (u : UW) (K : St → UW → Prop) : Prop :=
  match ops[i]? with
  | none => False
  | some o => guarded ops o st (fun st1 => W1 E fz o st1 u K) (fun st1 => K (fin o st1 undef) u)

def Wq (E : Env) (fz : List Nat) (ops : Array Oper) (Q : St → UW → Prop) : PlanQ → St → UW → Prop
  | .nil, st, u => Q st u
  | .tk i q, st, u => stepT E fz ops u i st fun st' => Wq E fz ops Q q st' u
  | .ld i q r, st, u => (stepT E fz ops u i st fun st' => Wq E fz ops Q q st' u) ∧ Wq E fz ops Q r st u
  | .alt i q r, st, u => (stepQ E fz ops i st u fun st' u' => Wq E fz ops Q q st' u') ∧ Wq E fz ops Q r st u
  | .done, _, _ => True

/-- The number of the first region of a piece of code. -/
def firstR : Code → Option Nat
  | .region id _ _ => some id
  | .seq a b => match firstR a with | some i => some i | none => firstR b
  | .cond _ a b => match firstR a with | some i => some i | none => firstR b
  | .block _ a => firstR a
  | .loop a => firstR a
  | .scope a => firstR a
  | .rangeFunc _ _ a b => match firstR a with | some i => some i | none => firstR b
  | _ => none

/-- The slots that a piece of code writes. -/
def writes : Code → List Nat
  | .region _ ops _ => ops.toList.filterMap (·.dst)
  | .seq a b => writes a ++ writes b
  | .cond _ a b => writes a ++ writes b
  | .block _ a => writes a
  | .loop a => writes a
  | .scope a => writes a
  | _ => []

def toJ (c : Cut) (J : Tup c.live → UW → Prop) (st : St) (w : UW) : Prop :=
  bif scrapOk st c.scrap then (match getLive st c.live with
    | some s => J s w
    | none => False) else False

def cutBox (c : Cut) (k : Nat) : Bool :=
  (c.live.any fun x => match x with | (t, .box _) => Nat.beq t k | _ => false) || c.scrap.any fun x => Nat.beq x.1 k

/-- The boxes whose contents stay as they are within a piece of code at whose end stands c. -/
def freeze (fz : List Nat) (D : List (Nat × Nat)) (c : Cut) : List Nat :=
  fz ++ (D.map (·.1)).filter fun k => !cutBox c k

def thenQ (next : St → UW → Prop) (Q : Exit → St → UW → Prop) : Exit → St → UW → Prop
  | .normal, st, w => next st w
  | e, st, w => Q e st w

def blockQ (id : Nat) (Q : Exit → St → UW → Prop) : Exit → St → UW → Prop
  | .exit i, st, w => bif Nat.beq i id then Q .normal st w else Q (.exit i) st w
  | e, st, w => Q e st w

/-- What is carried must not be a frozen box. -/
def liveOk (fz : List Nat) (D : List (Nat × Nat)) (c : Cut) : Bool :=
  (c.live.all fun x => match x with | (t, .box ks) => !memN fz t && Nat.blt t 65536 && Nat.ble ks.length 65536 | (t, _) => Nat.blt t 65536 && !isBox D t) && c.scrap.all fun x => !memN fz x.1 && Nat.blt x.1 65536 && hasBox D x.1 x.2

/-- The blocks that a piece of code leaves by a jump; does it return? -/
def exitsOf : Code → List Nat
  | .exit i => [i]
  | .seq a b => exitsOf a ++ exitsOf b
  | .cond _ a b => exitsOf a ++ exitsOf b
  | .block id a => (exitsOf a).filter fun i => !Nat.beq i id
  | .loop a => exitsOf a
  | .scope a => exitsOf a
  | .rangeFunc _ _ _ b => exitsOf b
  | _ => []
def hasRet : Code → Bool
  | .ret => true
  | .seq a b => hasRet a || hasRet b
  | .cond _ a b => hasRet a || hasRet b
  | .block _ a => hasRet a
  | .loop a => hasRet a
  | .scope a => hasRet a
  | .rangeFunc _ _ _ b => hasRet b
  | _ => false
def undup : List Nat → List Nat
  | [] => []
  | x :: l => bif memN l x then undup l else x :: undup l

def lookP : List (Nat × Prop) → Nat → Prop
  | [], _ => False
  | (k, A) :: l, i => bif Nat.beq k i then A else lookP l i

/-- Behind a loop over a function, by the pending jump. -/
def PK (p : Option Code) (A B : Prop) (l : List (Nat × Prop)) : Prop :=
  match p with
  | none => A
  | some .ret => B
  | some (.exit i) => lookP l i
  | _ => False

def normQ (K : St → UW → Prop) : Exit → St → UW → Prop
  | .normal, st, u => K st u
  | _, _, _ => False

def roundQ (R : Option Code → UW → Prop) : Exit → St → UW → Prop
  | .normal, _, u => R none u
  | .ret, _, u => R (some .ret) u
  | .exit i, _, u => R (some (.exit i)) u
  | _, _, _ => False

/-- A round's temporaries: those of the frame, private boxes forgotten. -/
def rndS (σ : Fr) : Fr := fun t => match σ t with | .complex _ _ _ => poison | v => v

def setPs (σ : Fr) : List Nat → List Value → Fr
  | p :: ps, v :: vs => setPs (upd σ p v) ps vs
  | _, _ => σ

def W (E : Env) : List Nat → Code → (Exit → St → UW → Prop) → St → UW → Prop
  | _, .skip, Q, st, w => Q .normal st w
  | _, .ret, Q, st, w => Q .ret st w
  | _, .exit i, Q, st, w => Q (.exit i) st w
  | fz, .region _ ops false, Q, st, w => Wl E fz ops (Q .normal) ops.toList st w
  | fz, .region id ops true, Q, st, w => bif E.P.follows .mixedOrders then (bif isQ E.priv id then (match mkPlanQ ops with
    | some p => Wq E fz ops (Q .normal) p st w
    | none => False) else match mkPlan ops with
    | some p => Wd E fz ops w (Q .normal) p st w
    | none => False) else False
  | fz, .seq a b, Q, st, w => match (firstR b).bind (look E.joins) with
    | none => W E fz a (thenQ (fun st' w' => W E fz b Q st' w') Q) st w
    | some l => bif liveOk fz st.D l then CJoin (fun J => W E (freeze fz st.D l) a (thenQ (toJ l J) Q) st w) (fun s w' => W E fz b Q (mix st (writes a) l s) w') else False
  | fz, .cond c a b, Q, st, w => match ev st.σ c with
    | .bool t => CIf t (W E fz a Q st w) (W E fz b Q st w)
    | _ => False
  | fz, .block id a, Q, st, w => W E fz a (blockQ id Q) st w
  | fz, .loop a, Q, st, w => match (firstR a).bind (look E.loops) with
    | none => False
    | some l => bif liveOk fz st.D l then toJ l (LoopI fun next s w' => W E (freeze fz st.D l) a (thenQ (toJ l next) Q) (mix st (writes a) l s) w') st w else False
  | _, .rangeFunc f ps assign body, Q, st, w => match look E.rngs (ps.toList.headD 0) with
    | none => False
    | some ts => bif Nat.beq ts.length ps.toList.length then
        RangeF E.P (ev st.σ f) (fun vs R u => exVs E.P ts fun vs' => vs = vs' ∧ W E [] assign (normQ fun st1 u1 => W E [] body (roundQ R) st1 u1) ⟨setPs (rndS st.σ) ps.toList vs', []⟩ u)
          (fun p u => PK p (Q .normal st u) (bif hasRet body then Q .ret st u else False) ((undup (exitsOf body)).map fun i => (i, Q (.exit i) st u))) w
      else False
  | _, _, _, _, _ => False

def argF (args : List Value) : Fr := fun t => (args[t]?).getD undef

/-- What is handed back. -/
def resQ (P : Program) (st : St) (w : UW) : List ResultVar → (List Value → Prop) → Prop
  | [], F => F []
  | .tmp t :: l, F => bif plain (st.σ t) then resQ P st w l fun vs => F (st.σ t :: vs) else False
  | .cell a t :: l, F => match kinds P t with
    | none => False
    | some ks => match st.σ a with
      | .complex .f64 k off => match boxSize st.D k with
        | some m => bif Nat.ble (off + ks.length) m && allPlain (rdG st.σ k off ks.length) then resQ P st w l fun vs => F (mkV (aggT P t) (rdG st.σ k off ks.length) :: vs) else False
        | none => False
      | v => withPtr v fun b off => exL ks fun us => rd w.heap b off ks.length = some us ∧ resQ P st w l fun vs => F (mkV (aggT P t) us :: vs)

def tupR (R : Value → UW → Prop) (w : UW) : List Value → Prop
  | [v] => R v w
  | vs => R (.tuple vs.toArray) w

def retQ (P : Program) (rs : List ResultVar) (R : Value → UW → Prop) : Exit → St → UW → Prop
  | .ret, st, w => resQ P st w rs (tupR R w)
  | .normal, st, w => resQ P st w rs (tupR R w)
  | _, _, _ => False

/-- What a function asks of its arguments and the world. -/
def WF (P : Program) (n : Nat) (priv : List Nat) (loops joins : List (Nat × Cut)) (rngs : List (Nat × List TypeId)) (c : Code) (rs : List ResultVar) (args : List Value) (w : UW) (R : Value → UW → Prop) : Prop :=
  W ⟨P, n, priv, loops, joins, rngs⟩ [] c (retQ P rs R) ⟨argF args, []⟩ w

end Go.Eng

/-
  The engine, third part: how the engine's state stands to the machine's.
-/
namespace Go.Eng
open Go.RowKit

theorem Below.toMod {B : Nat} {w w' : World} (h : Below B w w') (hB : w.heap.size ≤ B) (F : Nat → Prop) : Mod F w w' :=
  ⟨h.os, h.tape, h.output, h.size, fun b hb _ => h.block b (by omega)⟩

theorem Mod.trans {F : Nat → Prop} {a b c : World} (h : Mod F a b) (k : Mod F b c) : Mod F a c :=
  ⟨k.os.trans h.os, k.tape.trans h.tape, k.output.trans h.output, Nat.le_trans h.size k.size,
    fun i hi hn => (k.keep i (Nat.lt_of_lt_of_le hi h.size) hn).trans (h.keep i hi hn)⟩

/-- What stays fixed through a function's run: the world at its entry, the blocks that it may write. -/
structure Ctx where
  n : Nat
  w0 : World
  w1 : World
  F : Nat → Prop
  ro : Option (Nat × Loop) := none

/-- A block that the engine does not know: a loop's record, the deferred calls of a loop's rounds. -/
structure Hid (u : UW) (wa : World) (b : Nat) (o : Obj) : Prop where
  at_ : wa.heap[b]? = some o
  other : o.isCells = false
  pub : ¬ u.pub b
  mask : b < u.heap.size → u.heap[b]? = some masked

theorem Hid.world {u u' : UW} {wa wb : World} {F : Nat → Prop} {b : Nat} {o : Obj} (h : Hid u wa b o) (hF : ∀ b, F b → u.pub b) (hm : Mod F wa wb) (hum : Mod F u.toWorld u'.toWorld)
    (hhid : ∀ b, u.heap.size ≤ b → b < wa.heap.size → b < u'.heap.size → u'.heap[b]? = some masked) (hold : ∀ b, u'.pub b → b < wa.heap.size → u.pub b) : Hid u' wb b o := by
  have hlt : b < wa.heap.size := (Array.getElem?_eq_some_iff.1 h.at_).1
  refine ⟨(hm.keep _ hlt (fun hf => h.pub (hF _ hf))).trans h.at_, h.other, fun hp => h.pub (hold _ hp hlt), fun hl => ?_⟩
  by_cases hu : b < u.heap.size
  · rw [hum.keep _ hu (fun hf => h.pub (hF _ hf))]; exact h.mask hu
  · exact hhid _ (by omega) hlt hl

/-- The marks of loops over functions among the deferred calls. -/
structure Marks (C : Ctx) (ds : List Deferred) (wa : World) (u : UW) : Prop where
  each : ∀ d ∈ ds, ∃ r, d = { target := .collected r, args := #[] } ∧ C.w1.heap.size ≤ r ∧ Hid u wa r (.deferred (some []))
  nodup : ds.Nodup

structure Inv (C : Ctx) (a : Act) (wa : World) (st : St) (u : UW) (θ : Nat → Nat) : Prop where
  size : a.tmps.size = C.n
  n_le : C.n ≤ 65536
  defers : Marks C a.defers wa u
  round : ∀ l r, C.ro = some (l, r) → Hid u wa l (.loop r)
  slots : ∀ t, t < C.n → R θ (st.σ t) (a.tmps.getD t undef)
  below : Sees u.toWorld wa
  boxes : ∀ k m, (k, m) ∈ st.D → m ≤ 65536 ∧ ∃ c T, wa.heap[θ k]? = some (.cells c T (0, 0)) ∧ c.size = m ∧ (∀ j, j < m → R θ (st.σ (gx k j)) (c.getD j undef)) ∧ ¬ u.pub (θ k) ∧ C.w1.heap.size ≤ θ k ∧ (θ k < u.heap.size → u.heap[θ k]? = some masked)
  inj : ∀ k m k' m', (k, m) ∈ st.D → (k', m') ∈ st.D → θ k = θ k' → k = k' ∧ m = m'
  fakes : ∀ t, t < C.n → ∀ k o, st.σ t = fake k o → ∃ m, (k, m) ∈ st.D
  ghosts : ∀ k m, (k, m) ∈ st.D → ∀ j, j < m → ∀ k' o, st.σ (gx k j) ≠ fake k' o
  pubs : ∀ b, u.pub b → b < wa.heap.size
  mod : Mod C.F C.w1 wa
  pubF : ∀ b, u.pub b → b < C.w1.heap.size → C.F b
  umod : Mod C.F C.w0 u.toWorld
  w01 : C.w0.heap.size ≤ C.w1.heap.size
  hid : ∀ b, C.w0.heap.size ≤ b → b < C.w1.heap.size → b < u.heap.size → u.heap[b]? = some masked
  F0 : ∀ b, C.F b → b < C.w0.heap.size

theorem gx_inj {k j k' j' : Nat} (hj : j < 65536) (hj' : j' < 65536) (h : gx k j = gx k' j') : k = k' ∧ j = j' := by
  unfold gx at h; omega
theorem gx_ge (k j : Nat) : 65536 ≤ gx k j := by unfold gx; omega

theorem wrG_slot {σ : Fr} {k : Nat} : ∀ (vs : List Value) (o t : Nat), t < 65536 → wrG σ k o vs t = σ t := by
  intro vs
  induction vs generalizing σ with
  | nil => intro o t _; rfl
  | cons v vs ih =>
    intro o t ht
    simp only [wrG]
    rw [ih _ _ ht, upd_ne]
    have := gx_ge k o; omega

theorem wrG_other {σ : Fr} {k : Nat} : ∀ (vs : List Value) (o i : Nat), (∀ j, o ≤ j → j < o + vs.length → i ≠ gx k j) → wrG σ k o vs i = σ i := by
  intro vs
  induction vs generalizing σ with
  | nil => intro o i _; rfl
  | cons v vs ih =>
    intro o i h
    simp only [wrG]
    rw [ih _ _ (fun j h1 h2 => h j (by omega) (by simp; omega)), upd_ne]
    exact h o (by omega) (by simp)

theorem wrG_at {σ : Fr} {k : Nat} : ∀ (vs : List Value) (o j : Nat), j < vs.length → o + vs.length ≤ 65536 → wrG σ k o vs (gx k (o + j)) = vs.getD j undef := by
  intro vs
  induction vs generalizing σ with
  | nil => intro o j h; simp at h
  | cons v vs ih =>
    intro o j h hl
    simp only [wrG]
    simp only [List.length_cons] at h hl
    cases j with
    | zero =>
      rw [wrG_other]
      · simp
      · intro i h1 h2 he
        have := (gx_inj (by omega) (by omega) he).2
        omega
    | succ j =>
      have := ih (σ := upd σ (gx k o) v) (o + 1) j (by omega) (by omega)
      rw [show o + (j + 1) = o + 1 + j from by omega, this]
      simp

/-- A state that knows less. -/
structure Weak (n : Nat) (s t : St) : Prop where
  slot : ∀ i, i < n → s.σ i = poison ∨ s.σ i = t.σ i
  D : ∀ k m, (k, m) ∈ s.D → (k, m) ∈ t.D ∧ ∀ j, j < m → s.σ (gx k j) = poison ∨ s.σ (gx k j) = t.σ (gx k j)
  fakes : ∀ i, i < n → ∀ k o, s.σ i = fake k o → (∃ m, (k, m) ∈ t.D) → ∃ m, (k, m) ∈ s.D

theorem R_poison (θ : Nat → Nat) (r : Value) : R θ poison r := trivial

theorem Inv.weak {C : Ctx} {a : Act} {wa : World} {s t : St} {u : UW} {θ : Nat → Nat} (h : Inv C a wa t u θ) (hw : Weak C.n s t) : Inv C a wa s u θ where
  size := h.size
  n_le := h.n_le
  defers := h.defers
  round := h.round
  slots := fun i hi => by
    rcases hw.slot i hi with e | e
    · rw [e]; exact R_poison _ _
    · rw [e]; exact h.slots i hi
  below := h.below
  boxes := fun k m hk => by
    obtain ⟨hk', hg⟩ := hw.D k m hk
    obtain ⟨hm, c, T, h1, h2, h3, h4, h5⟩ := h.boxes k m hk'
    refine ⟨hm, c, T, h1, h2, fun j hj => ?_, h4, h5⟩
    rcases hg j hj with e | e
    · rw [e]; exact R_poison _ _
    · rw [e]; exact h3 j hj
  inj := fun k m k' m' h1 h2 => h.inj k m k' m' (hw.D k m h1).1 (hw.D k' m' h2).1
  fakes := fun i hi k o e => by
    refine hw.fakes i hi k o e ?_
    rcases hw.slot i hi with e' | e'
    · rw [e] at e'; cases e'
    · exact h.fakes i hi k o (e' ▸ e)
  ghosts := fun k m hk j hj k' o e => by
    rcases (hw.D k m hk).2 j hj with e' | e'
    · rw [e] at e'; cases e'
    · exact h.ghosts k m (hw.D k m hk).1 j hj k' o (e' ▸ e)
  pubs := h.pubs
  mod := h.mod
  pubF := h.pubF
  umod := h.umod
  w01 := h.w01
  hid := h.hid
  F0 := h.F0

theorem getD_set (a : Array Value) (d t : Nat) (r : Value) (h : d < a.size) : (a.setIfInBounds d r).getD t undef = if t = d then r else a.getD t undef := by
  by_cases e : t = d
  · subst e; simp [h]
  · rw [if_neg e]; simp [Ne.symm e]

theorem put_tmps_size (a : Act) (d : Option Nat) (r : Value) : (a.put d r).tmps.size = a.tmps.size := by cases d <;> simp [Act.put]
theorem put_defers (a : Act) (d : Option Nat) (r : Value) : (a.put d r).defers = a.defers := by cases d <;> rfl

/-- A slot is set. -/
theorem Inv.fin {C : Ctx} {a : Act} {wa : World} {st : St} {u : UW} {θ : Nat → Nat} (h : Inv C a wa st u θ) (d : Option Nat) (hd : ∀ t, d = some t → t < C.n) {v r : Value} (hr : R θ v r)
    (hf : ∀ k o, v = fake k o → ∃ m, (k, m) ∈ st.D) : Inv C (a.put d r) wa { st with σ := put st.σ d v } u θ where
  size := by rw [put_tmps_size]; exact h.size
  n_le := h.n_le
  defers := by rw [put_defers]; exact h.defers
  round := h.round
  slots := fun t ht => by
    cases d with
    | none => exact h.slots t ht
    | some d =>
      simp only [Act.put, put]
      rw [getD_set _ _ _ _ (by rw [h.size]; exact hd d rfl)]
      by_cases e : t = d
      · subst e; simp [hr]
      · rw [if_neg e, upd_ne _ _ e]; exact h.slots t ht
  below := h.below
  boxes := fun k m hk => by
    obtain ⟨hm, c, T, h1, h2, h3, h4, h5⟩ := h.boxes k m hk
    refine ⟨hm, c, T, h1, h2, fun j hj => ?_, h4, h5⟩
    cases d with
    | none => exact h3 j hj
    | some d =>
      simp only [put]
      have := hd d rfl; have := h.n_le; have := gx_ge k j
      rw [upd_ne _ _ (by omega)]
      exact h3 j hj
  inj := h.inj
  fakes := fun t ht k o e => by
    cases d with
    | none => exact h.fakes t ht k o e
    | some d =>
      simp only [put] at e
      by_cases e' : t = d
      · subst e'; rw [upd_same] at e; exact hf k o e
      · rw [upd_ne _ _ e'] at e; exact h.fakes t ht k o e
  ghosts := fun k m hk j hj k' o e => by
    cases d with
    | none => exact h.ghosts k m hk j hj k' o e
    | some d =>
      simp only [put] at e
      have := hd d rfl; have := h.n_le; have := gx_ge k j
      rw [upd_ne _ _ (by omega)] at e
      exact h.ghosts k m hk j hj k' o e
  pubs := h.pubs
  mod := h.mod
  pubF := h.pubF
  umod := h.umod
  w01 := h.w01
  hid := h.hid
  F0 := h.F0

theorem not_fake {v : Value} (h : plain v = true) (k o : Nat) : v ≠ fake k o := by rintro rfl; simp [plain] at h

theorem Inv.finP {C : Ctx} {a : Act} {wa : World} {st : St} {u : UW} {θ : Nat → Nat} (h : Inv C a wa st u θ) (d : Option Nat) (hd : ∀ t, d = some t → t < C.n) {v : Value} (hp : plain v = true) :
    Inv C (a.put d v) wa { st with σ := put st.σ d v } u θ :=
  h.fin d hd (R_refl hp) (fun k o e => absurd e (not_fake hp k o))

/-- The world goes on: of what the engine knows nothing has turned but in blocks that may be written. -/
theorem Inv.world {C : Ctx} {a : Act} {wa : World} {st : St} {u : UW} {θ : Nat → Nat} (h : Inv C a wa st u θ) {wb : World} {u' : UW} {F : Nat → Prop} (hF : ∀ b, F b → u.pub b)
    (hm : Mod F wa wb) (hb : Sees u'.toWorld wb) (hum : Mod F u.toWorld u'.toWorld)
    (hhid : ∀ b, u.heap.size ≤ b → b < wa.heap.size → b < u'.heap.size → u'.heap[b]? = some masked)
    (hp : ∀ b, u'.pub b → b < wb.heap.size) (hold : ∀ b, u'.pub b → b < wa.heap.size → u.pub b) : Inv C a wb st u' θ where
  size := h.size
  n_le := h.n_le
  defers := ⟨fun d hd => let ⟨r, e, hr, hh⟩ := h.defers.each d hd; ⟨r, e, hr, hh.world hF hm hum hhid hold⟩, h.defers.nodup⟩
  round := fun l r e => (h.round l r e).world hF hm hum hhid hold
  slots := h.slots
  below := hb
  boxes := fun k m hk => by
    obtain ⟨hmm, c, T, h1, h2, h3, h4, h5, h6⟩ := h.boxes k m hk
    have hlt : θ k < wa.heap.size := (Array.getElem?_eq_some_iff.1 h1).1
    refine ⟨hmm, c, T, (hm.keep _ hlt (fun hf => h4 (hF _ hf))).trans h1, h2, h3, fun hpub => h4 (hold _ hpub hlt), h5, fun hl => ?_⟩
    by_cases hu : θ k < u.heap.size
    · rw [hum.keep _ hu (fun hf => h4 (hF _ hf))]; exact h6 hu
    · exact hhid _ (by omega) hlt hl
  inj := h.inj
  fakes := h.fakes
  ghosts := h.ghosts
  pubs := hp
  mod := by
    refine ⟨hm.os.trans h.mod.os, hm.tape.trans h.mod.tape, hm.output.trans h.mod.output, Nat.le_trans h.mod.size hm.size, fun b hb hn => ?_⟩
    have hlt : b < wa.heap.size := Nat.lt_of_lt_of_le hb h.mod.size
    rw [hm.keep b hlt (fun hf => hn (h.pubF b (hF _ hf) hb))]
    exact h.mod.keep b hb hn
  pubF := fun b hb hlt => h.pubF b (hold b hb (Nat.lt_of_lt_of_le hlt h.mod.size)) hlt
  umod := by
    refine ⟨hum.os.trans h.umod.os, hum.tape.trans h.umod.tape, hum.output.trans h.umod.output, Nat.le_trans h.umod.size hum.size, fun b hb hn => ?_⟩
    have hlt : b < u.heap.size := Nat.lt_of_lt_of_le hb h.umod.size
    rw [hum.keep b hlt (fun hf => hn (h.pubF b (hF _ hf) (Nat.lt_of_lt_of_le hb h.w01)))]
    exact h.umod.keep b hb hn
  w01 := h.w01
  hid := fun b h1 h2 h3 => by
    by_cases hu : b < u.heap.size
    · by_cases hf : F b
      · have := h.hid b h1 h2 hu
        have hFb := h.pubF b (hF _ hf) h2
        exact absurd (h.F0 b hFb) (by omega)
      · rw [hum.keep b hu hf]; exact h.hid b h1 h2 hu
    · exact hhid b (by omega) (Nat.lt_of_lt_of_le h2 h.mod.size) h3
  F0 := h.F0

theorem Mod.refl (F : Nat → Prop) (w : World) : Mod F w w := ⟨rfl, rfl, rfl, Nat.le_refl _, fun _ _ _ => rfl⟩
theorem Sees.refl (w : World) : Sees w w := ⟨rfl, rfl, rfl, Nat.le_refl _, fun _ _ => .inl rfl⟩

/-- Nothing but the count of draws has turned. -/
theorem Inv.drew {C : Ctx} {a : Act} {wa : World} {st : St} {u : UW} {θ : Nat → Nat} (h : Inv C a wa st u θ) : Inv C a { wa with drawn := wa.drawn + 1 } st u θ :=
  h.world (u' := u) (F := fun _ => False) (fun _ hf => hf.elim) ⟨rfl, rfl, rfl, Nat.le_refl _, fun _ _ _ => rfl⟩ ⟨h.below.os, h.below.tape, h.below.output, h.below.size, h.below.block⟩ (Mod.refl _ _)
    (fun b h1 _ h3 => by omega) h.pubs (fun _ hb _ => hb)

/-- The engine's world behind a new block. -/
def grow (u : World) (wa : World) (o : Obj) : World := { wa with heap := u.heap ++ Array.replicate (wa.heap.size - u.heap.size) masked ++ #[o] }

theorem grow_size {u wa : World} {o : Obj} (h : u.heap.size ≤ wa.heap.size) : (grow u wa o).heap.size = wa.heap.size + 1 := by simp [grow]; omega
theorem grow_old {u wa : World} {o : Obj} {b : Nat} (h : b < u.heap.size) : (grow u wa o).heap[b]? = u.heap[b]? := by
  simp only [grow]
  rw [Array.getElem?_append_left (by simp; omega), Array.getElem?_append_left h]
theorem grow_mid {u wa : World} {o : Obj} {b : Nat} (h1 : u.heap.size ≤ b) (h2 : b < wa.heap.size) : (grow u wa o).heap[b]? = some masked := by
  simp only [grow]
  rw [Array.getElem?_append_left (by simp; omega), Array.getElem?_append_right h1, Array.getElem?_replicate, if_pos (by omega)]
theorem grow_new {u wa : World} {o : Obj} (h : u.heap.size ≤ wa.heap.size) : (grow u wa o).heap[wa.heap.size]? = some o := by
  simp only [grow]
  rw [Array.getElem?_append_right (by simp; omega)]
  have e : wa.heap.size - (u.heap ++ Array.replicate (wa.heap.size - u.heap.size) masked).size = 0 := by simp; omega
  rw [e]; rfl

/-- A block of its own is made. -/
theorem Inv.born {C : Ctx} {a : Act} {wa : World} {st : St} {u : UW} {θ : Nat → Nat} (h : Inv C a wa st u θ) (o : Obj) :
    ∃ w', Born u.toWorld w' wa.heap.size o ∧ Inv C a (wa.alloc o) st (u.born wa.heap.size w') θ := by
  have hB : Below wa.heap.size wa (wa.alloc o) := (Below.refl _ _).alloc (Nat.le_refl _) o
  have hat : (wa.alloc o).heap[wa.heap.size]? = some o := by
    show (wa.heap.push o)[wa.heap.size]? = _
    simp
  have hus := h.below.size
  have hsz : (wa.alloc o).heap.size = wa.heap.size + 1 := by simp
  refine ⟨grow u.toWorld wa o, ⟨⟨h.below.os, h.below.tape, h.below.output, by rw [grow_size hus]; omega, fun k hk => grow_old hk⟩, grow_new hus, hus⟩, ?_⟩
  refine h.world (F := fun _ => False) (fun _ hf => hf.elim) (Below.toMod hB (Nat.le_refl _) _) ?_ ?_ ?_ ?_ ?_
  · refine ⟨rfl, rfl, rfl, ?_, fun b hb => ?_⟩
    · show (grow u.toWorld wa o).heap.size ≤ _
      rw [grow_size hus, hsz]; omega
    · have hb' : b < (grow u.toWorld wa o).heap.size := hb
      rw [grow_size hus] at hb'
      show (grow u.toWorld wa o).heap[b]? = _ ∨ (grow u.toWorld wa o).heap[b]? = _
      by_cases h1 : b < u.heap.size
      · rw [grow_old h1, hB.block b (by omega)]; exact h.below.block b h1
      · by_cases h2 : b < wa.heap.size
        · exact .inr (grow_mid (by omega) h2)
        · obtain rfl : b = wa.heap.size := by omega
          exact .inl (by rw [grow_new hus, hat])
  · exact ⟨h.below.os, h.below.tape, h.below.output, by show _ ≤ (grow u.toWorld wa o).heap.size; rw [grow_size hus]; omega, fun b hb _ => grow_old hb⟩
  · intro b h1 h2 _
    exact grow_mid h1 h2
  · intro b hb
    rcases hb with hb | rfl
    · exact Nat.lt_of_lt_of_le (h.pubs b hb) hB.size
    · omega
  · intro b hb hlt
    rcases hb with hb | rfl
    · exact hb
    · omega

/-- What the code writes, and what it may not. -/
structure Pres (n : Nat) (fz ws : List Nat) (s t : St) : Prop where
  slot : ∀ i, i < n → i ∉ ws → t.σ i = s.σ i
  D : ∀ x, x ∈ s.D → x ∈ t.D
  fz : ∀ k, k ∈ fz → ∀ m, (k, m) ∈ s.D → ∀ j, j < m → t.σ (gx k j) = s.σ (gx k j)

theorem Pres.refl (n : Nat) (fz ws : List Nat) (s : St) : Pres n fz ws s s := ⟨fun _ _ _ => rfl, fun _ h => h, fun _ _ _ _ _ _ => rfl⟩

theorem Pres.trans {n : Nat} {fz ws ws' : List Nat} {a b c : St} (h : Pres n fz ws a b) (k : Pres n fz ws' b c) : Pres n fz (ws ++ ws') a c where
  slot := fun i hi hn => by
    simp only [List.mem_append, not_or] at hn
    rw [k.slot i hi hn.2, h.slot i hi hn.1]
  D := fun x hx => k.D x (h.D x hx)
  fz := fun x hx m hm j hj => by rw [k.fz x hx m (h.D _ hm) j hj, h.fz x hx m hm j hj]

theorem Pres.mono {n : Nat} {fz ws fz' ws' : List Nat} {a b : St} (h : Pres n fz ws a b) (h1 : ∀ x, x ∈ fz' → x ∈ fz) (h2 : ∀ x, x ∈ ws → x ∈ ws') : Pres n fz' ws' a b :=
  ⟨fun i hi hn => h.slot i hi (fun hx => hn (h2 _ hx)), h.D, fun k hk => h.fz k (h1 _ hk)⟩

theorem Pres.fin {n : Nat} {fz : List Nat} (st : St) (d : Option Nat) (hd : ∀ t, d = some t → t < n) (hn : n ≤ 65536) (v : Value) : Pres n fz d.toList st { st with σ := put st.σ d v } where
  slot := fun i _ hni => by
    cases d with
    | none => rfl
    | some d => simp only [Option.toList, List.mem_singleton] at hni; simp only [put]; rw [upd_ne _ _ hni]
  D := fun _ h => h
  fz := fun k _ m _ j _ => by
    cases d with
    | none => rfl
    | some d =>
      simp only [put]
      have := hd d rfl; have := gx_ge k j
      rw [upd_ne _ _ (by omega)]

end Go.Eng

/-
  The engine, fourth part: running memory operations; making and writing a private box.
-/
namespace Go.Eng
open Go.RowKit

theorem add_addr (b o i : Nat) : (⟨b, o, none⟩ : Addr).add i = ⟨b, o + i, none⟩ := by
  unfold Addr.add; split
  · subst_vars; rfl
  · rfl

theorem R_congr {θ θ' : Nat → Nat} {v r : Value} (h : R θ v r) (hf : ∀ k o, v = fake k o → θ' k = θ k) : R θ' v r := by
  unfold R at *
  split
  · rename_i k o; rw [hf k o rfl]; exact h
  · trivial
  · rename_i h1 h2; split at h
    · exact absurd rfl (h1 _ _)
    · exact absurd rfl (h2 _ _)
    · exact h

/-- A block is replaced. -/
def setB (w : World) (b : Nat) (o : Obj) : World := { w with heap := w.heap.setIfInBounds b o }

theorem setB_at {w : World} {b : Nat} {o : Obj} (h : b < w.heap.size) : (setB w b o).heap[b]? = some o := by simp [setB, h]
theorem setB_ne {w : World} {b c : Nat} {o : Obj} (h : c ≠ b) : (setB w b o).heap[c]? = w.heap[c]? := by simp [setB, Ne.symm h]
theorem setB_size {w : World} {b : Nat} {o : Obj} : (setB w b o).heap.size = w.heap.size := by simp [setB]

theorem wrA_size : ∀ (vs : List Value) (c : Array Value) (o : Nat), (wrA c o vs).size = c.size
  | [], _, _ => rfl
  | v :: vs, c, o => by simp [wrA, wrA_size vs]

theorem wrA_get : ∀ (vs : List Value) (c : Array Value) (o j : Nat), o + vs.length ≤ c.size → (wrA c o vs).getD j undef = if o ≤ j ∧ j < o + vs.length then vs.getD (j - o) undef else c.getD j undef
  | [], c, o, j, _ => by
    rw [if_neg (by simp only [List.length_nil]; omega)]; rfl
  | v :: vs, c, o, j, h => by
    simp only [List.length_cons] at h
    simp only [wrA]
    rw [wrA_get vs _ (o + 1) j (by simp; omega), getD_set _ _ _ _ (by omega)]
    by_cases h1 : j = o
    · subst h1
      rw [if_neg (by omega), if_pos rfl, if_pos (by simp)]
      simp
    · rw [if_neg h1]
      by_cases h2 : o + 1 ≤ j ∧ j < o + 1 + vs.length
      · rw [if_pos h2, if_pos (by simp; omega)]
        obtain ⟨i, hi⟩ : ∃ i, j - o = i + 1 := ⟨j - o - 1, by omega⟩
        rw [hi, show j - (o + 1) = i from by omega]
        simp
      · rw [if_neg h2, if_neg (by simp; omega)]

theorem cell_of {w : World} {b o : Nat} {c : Array Value} {T : TypeId} {f : Nat × Nat} (h : w.heap[b]? = some (.cells c T f)) : w.cell? ⟨b, o, none⟩ = c[o]? := by
  simp [World.cell?, h]

theorem loadCellsFrom_run {P : Program} {w : World} {b o : Nat} {c : Array Value} {T : TypeId} {f : Nat × Nat} (h : w.heap[b]? = some (.cells c T f)) :
    ∀ (n i : Nat) (acc : Array Value), o + i + n ≤ c.size → (loadCellsFrom ⟨b, o, none⟩ i n acc).run P w = .ok (acc ++ ((c.toList.drop (o + i)).take n).toArray) w
  | 0, i, acc, _ => by simp [loadCellsFrom]
  | n + 1, i, acc, hl => by
    have hlt : o + i < c.size := by omega
    simp only [loadCellsFrom, Sem.run_bind, run_load, add_addr, cell_of h, Array.getElem?_eq_getElem hlt, Result.andThen_ok]
    rw [loadCellsFrom_run h n (i + 1) _ (by omega)]
    have hlt' : o + i < c.toList.length := by simpa using hlt
    rw [List.drop_eq_getElem_cons hlt']
    simp [Nat.add_assoc]

theorem loadCells_run {P : Program} {w : World} {b o n : Nat} {c : Array Value} {T : TypeId} {f : Nat × Nat} (h : w.heap[b]? = some (.cells c T f)) (hl : o + n ≤ c.size) :
    (loadCells ⟨b, o, none⟩ n).run P w = .ok ((c.toList.drop o).take n).toArray w := by
  unfold loadCells
  rw [loadCellsFrom_run h n 0 #[] (by omega)]
  simp

theorem one_cell' {v : Value} (h : one v = true) : v.oneCell' = true := by cases v <;> simp_all [one, Value.oneCell']

theorem setB_self {w : World} {b : Nat} {o : Obj} (h : w.heap[b]? = some o) : setB w b o = w := by
  obtain ⟨heap, tape, drawn, os, output⟩ := w
  simp only [setB]
  congr 1
  apply Array.ext_getElem?
  intro k
  rw [Array.getElem?_setIfInBounds]
  split
  · rename_i e; subst e
    have hb := (Array.getElem?_eq_some_iff.1 h).1
    rw [if_pos hb]; exact h.symm
  · rfl

theorem setCell_setB {w : World} {b o : Nat} {c : Array Value} {T : TypeId} {f : Nat × Nat} (v : Value) (h : w.heap[b]? = some (.cells c T f)) :
    w.setCell ⟨b, o, none⟩ v = setB w b (.cells (c.setIfInBounds o v) T f) := by
  obtain ⟨heap, tape, drawn, os, output⟩ := w
  simp only [setB, World.setCell]
  congr 1
  apply Array.ext_getElem?
  intro k
  rw [Array.getElem?_setIfInBounds, Array.getElem?_modify]
  split
  · rename_i e; subst e
    have h' : heap[b]? = some (.cells c T f) := h
    have hb := (Array.getElem?_eq_some_iff.1 h').1
    rw [h']
    simp [hb]
  · rfl

theorem storeCells_run {P : Program} {b o : Nat} {T : TypeId} : ∀ (vs : List Value) (i : Nat) (w : World) (c : Array Value), w.heap[b]? = some (.cells c T (0, 0)) → o + i + vs.length ≤ c.size → (∀ v ∈ vs, one v = true) →
    (storeCells ⟨b, o, none⟩ vs i).run P w = .ok () (setB w b (.cells (wrA c (o + i) vs) T (0, 0)))
  | [], i, w, c, h, _, _ => by
    simp only [storeCells, wrA, Sem.run_pure]
    rw [setB_self h]
  | v :: vs, i, w, c, h, hl, ho => by
    have hb : b < w.heap.size := (Array.getElem?_eq_some_iff.1 h).1
    simp only [List.length_cons] at hl
    have hlt : o + i < c.size := by omega
    have hfr : w.frozen? ⟨b, o + i, none⟩ = false := by simp [World.frozen?, h]
    have hcell : w.cell? ⟨b, o + i, none⟩ = some c[o + i] := by rw [cell_of h, Array.getElem?_eq_getElem hlt]
    simp only [storeCells, Sem.run_bind, add_addr, run_store _ _ _ _ _ (one_cell' (ho v (by simp))), hcell, hfr]
    simp only [Bool.false_eq_true, if_false, Result.andThen_ok]
    rw [setCell_setB v h]
    rw [storeCells_run vs (i + 1) _ (c.setIfInBounds (o + i) v) (setB_at hb) (by simp; omega) (fun x hx => ho x (by simp [hx]))]
    congr 1
    simp only [setB, wrA, Array.setIfInBounds_setIfInBounds]
    rfl

end Go.Eng
namespace Go.Eng
open Go.RowKit

theorem all_plain {vs : List Value} (h : allPlain vs = true) : ∀ v ∈ vs, plain v = true ∧ one v = true := by
  intro v hv
  have := List.all_eq_true.1 h v hv
  simpa using this

/-- A private box is made. -/
theorem Inv.newBox {C : Ctx} {a : Act} {wa : World} {st : St} {u : UW} {θ : Nat → Nat} (h : Inv C a wa st u θ) {k : Nat} {cs : Array Value} {T : TypeId} (hk : k < C.n) (hbox : ∀ m, (k, m) ∉ st.D)
    (hp : ∀ v ∈ cs.toList, plain v = true) (hsz : cs.size ≤ 65536) :
    Inv C (a.put (some k) (.pointer (some ⟨wa.heap.size, 0, none⟩))) (wa.alloc (.cells cs T (0, 0))) { st with σ := wrG (upd st.σ k (fake k 0)) k 0 cs.toList, D := (k, cs.size) :: st.D } u
      (fun i => if i = k then wa.heap.size else θ i) := by
  have hB : Below wa.heap.size wa (wa.alloc (.cells cs T (0, 0))) := (Below.refl _ _).alloc (Nat.le_refl _) _
  have hat : (wa.alloc (.cells cs T (0, 0))).heap[wa.heap.size]? = some (.cells cs T (0, 0)) := by
    show (wa.heap.push _)[wa.heap.size]? = _
    simp
  have hn := h.n_le
  have hold : ∀ k' m, (k', m) ∈ st.D → k' ≠ k := fun k' m hm e => hbox m (e ▸ hm)
  have hlt : ∀ k' m, (k', m) ∈ st.D → θ k' < wa.heap.size := fun k' m hm => by
    obtain ⟨_, c, T', h1, _⟩ := h.boxes k' m hm
    exact (Array.getElem?_eq_some_iff.1 h1).1
  have hgh : ∀ k' m, (k', m) ∈ st.D → ∀ j, j < m → wrG (upd st.σ k (fake k 0)) k 0 cs.toList (gx k' j) = st.σ (gx k' j) := fun k' m hm j hj => by
    have hm' := (h.boxes k' m hm).1
    rw [wrG_other, upd_ne]
    · have := gx_ge k' j; omega
    · intro i _ hi e
      have := (gx_inj (by omega) (by simp at hi; omega) e).1
      exact hold k' m hm this
  have hkeep : ∀ {b : Nat} {o : Obj}, Hid u wa b o → Hid u (wa.alloc (.cells cs T (0, 0))) b o := fun hh =>
    ⟨(hB.block _ (Array.getElem?_eq_some_iff.1 hh.at_).1).trans hh.at_, hh.other, hh.pub, hh.mask⟩
  refine ⟨?_, hn, ?_, ?_, ?_, ?_, ?_, ?_, ?_, ?_, ?_, ?_, h.pubF, h.umod, h.w01, h.hid, h.F0⟩
  · rw [put_tmps_size]; exact h.size
  · rw [put_defers]; exact ⟨fun d hd => let ⟨r, e, hr, hh⟩ := h.defers.each d hd; ⟨r, e, hr, hkeep hh⟩, h.defers.nodup⟩
  · exact fun l r e => hkeep (h.round l r e)
  · intro t ht
    simp only [Act.put]
    rw [getD_set _ _ _ _ (by rw [h.size]; exact hk), wrG_slot _ _ _ (by omega)]
    by_cases e : t = k
    · subst e; rw [if_pos rfl, upd_same]; simp [R]
    · rw [if_neg e, upd_ne _ _ e]
      refine R_congr (h.slots t ht) fun k' o e' => ?_
      obtain ⟨m, hm⟩ := h.fakes t ht k' o e'
      simp [hold k' m hm]
  · refine ⟨h.below.os, h.below.tape, h.below.output, Nat.le_trans h.below.size hB.size, fun b hb => ?_⟩
    rw [hB.block b (Nat.lt_of_lt_of_le hb h.below.size)]
    exact h.below.block b hb
  · intro k' m hm
    simp only [List.mem_cons, Prod.mk.injEq] at hm
    rcases hm with ⟨rfl, rfl⟩ | hm
    · refine ⟨hsz, cs, T, by simpa using hat, rfl, fun j hj => ?_, ?_, ?_, ?_⟩
      · have hw := wrG_at (σ := upd st.σ k' (fake k' 0)) (k := k') cs.toList 0 j (by simpa using hj) (by simpa using hsz)
        simp only [Nat.zero_add] at hw
        simp only
        rw [hw]
        have hmem : cs.toList.getD j undef ∈ cs.toList := by
          rw [List.getD_eq_getElem?_getD, List.getElem?_eq_getElem (by simpa using hj)]
          simp
        rw [R_plain (hp _ hmem)]
        simp
      · simp only [if_true]
        intro hpub
        have := h.pubs _ hpub; omega
      · simp only [if_true]; exact h.mod.size
      · simp only [if_true]; intro hl; have := h.below.size; omega
    · obtain ⟨hmm, c, T', h1, h2, h3, h4, h5, h6⟩ := h.boxes k' m hm
      simp only [if_neg (hold k' m hm)]
      refine ⟨hmm, c, T', (hB.block _ (hlt k' m hm)).trans h1, h2, fun j hj => ?_, h4, h5, h6⟩
      simp only [hgh k' m hm j hj]
      exact R_congr (h3 j hj) fun k'' o e => absurd e (h.ghosts k' m hm j hj k'' o)
  · intro k1 m1 k2 m2 h1 h2 e
    simp only [List.mem_cons, Prod.mk.injEq] at h1 h2
    rcases h1 with ⟨rfl, rfl⟩ | h1 <;> rcases h2 with ⟨rfl, rfl⟩ | h2
    · exact ⟨rfl, rfl⟩
    · simp only [if_true, if_neg (hold _ _ h2)] at e
      have := hlt _ _ h2; omega
    · simp only [if_true, if_neg (hold _ _ h1)] at e
      have := hlt _ _ h1; omega
    · simp only [if_neg (hold _ _ h1), if_neg (hold _ _ h2)] at e
      exact h.inj _ _ _ _ h1 h2 e
  · intro t ht k' o e
    simp only at e
    rw [wrG_slot _ _ _ (by omega)] at e
    by_cases e' : t = k
    · subst e'; rw [upd_same] at e
      simp only [Value.complex.injEq, true_and] at e
      exact ⟨cs.size, by simp [e.1]⟩
    · rw [upd_ne _ _ e'] at e
      obtain ⟨m, hm⟩ := h.fakes t ht k' o e
      exact ⟨m, by simp [hm]⟩
  · intro k1 m1 h1 j hj k' o e
    simp only [List.mem_cons, Prod.mk.injEq] at h1
    rcases h1 with ⟨rfl, rfl⟩ | h1
    · have hw := wrG_at (σ := upd st.σ k1 (fake k1 0)) (k := k1) cs.toList 0 j (by simpa using hj) (by simpa using hsz)
      simp only [Nat.zero_add] at hw
      simp only at e
      rw [hw] at e
      have hmem : cs.toList.getD j undef ∈ cs.toList := by
        rw [List.getD_eq_getElem?_getD, List.getElem?_eq_getElem (by simpa using hj)]
        simp
      exact not_fake (hp _ hmem) k' o e
    · simp only [hgh k1 m1 h1 j hj] at e
      exact h.ghosts k1 m1 h1 j hj k' o e
  · intro b hb
    exact Nat.lt_of_lt_of_le (h.pubs b hb) hB.size
  · exact h.mod.trans (Below.toMod hB (Nat.le_refl _) _)

/-- A private box is written. -/
theorem Inv.stBox {C : Ctx} {a : Act} {wa : World} {st : St} {u : UW} {θ : Nat → Nat} (h : Inv C a wa st u θ) {k m o : Nat} {vs : List Value} (hk : (k, m) ∈ st.D) (hl : o + vs.length ≤ m)
    (hp : ∀ v ∈ vs, plain v = true) : ∃ c T, wa.heap[θ k]? = some (.cells c T (0, 0)) ∧ c.size = m ∧
      Inv C a (setB wa (θ k) (.cells (wrA c o vs) T (0, 0))) { st with σ := wrG st.σ k o vs } u θ := by
  obtain ⟨hmm, c, T, h1, h2, h3, h4, h5, h6⟩ := h.boxes k m hk
  have hlt : θ k < wa.heap.size := (Array.getElem?_eq_some_iff.1 h1).1
  have hn := h.n_le
  have hgh : ∀ k' m', (k', m') ∈ st.D → k' ≠ k → ∀ j, j < m' → wrG st.σ k o vs (gx k' j) = st.σ (gx k' j) := fun k' m' hm hne j hj => by
    have hm' := (h.boxes k' m' hm).1
    rw [wrG_other]
    intro i _ hi e
    exact hne (gx_inj (by omega) (by omega) e).1
  have hkeep : ∀ {b : Nat} {ob : Obj}, Hid u wa b ob → Hid u (setB wa (θ k) (.cells (wrA c o vs) T (0, 0))) b ob := fun {b ob} hh => by
    refine ⟨?_, hh.other, hh.pub, hh.mask⟩
    rw [setB_ne]
    · exact hh.at_
    · rintro rfl
      have := hh.at_; rw [h1] at this; cases this
      have := hh.other; simp [Obj.isCells] at this
  refine ⟨c, T, h1, h2, h.size, hn, ⟨fun d hd => let ⟨r, e, hr, hh⟩ := h.defers.each d hd; ⟨r, e, hr, hkeep hh⟩, h.defers.nodup⟩, fun l r e => hkeep (h.round l r e), ?_, ?_, ?_, h.inj, ?_, ?_, ?_, ?_, h.pubF, h.umod, h.w01, h.hid, h.F0⟩
  · intro t ht
    simp only
    rw [wrG_slot _ _ _ (by omega)]; exact h.slots t ht
  · refine ⟨h.below.os, h.below.tape, h.below.output, by rw [setB_size]; exact h.below.size, fun b hb => ?_⟩
    by_cases e : b = θ k
    · subst e; exact .inr (h6 hb)
    · rw [setB_ne e]; exact h.below.block b hb
  · intro k' m' hm
    by_cases e : k' = k
    · subst e
      obtain rfl : m' = m := (h.inj _ _ _ _ hm hk rfl).2
      refine ⟨hmm, wrA c o vs, T, setB_at hlt, by rw [wrA_size, h2], fun j hj => ?_, h4, h5, h6⟩
      rw [wrA_get _ _ _ _ (by omega)]
      simp only
      by_cases hr : o ≤ j ∧ j < o + vs.length
      · rw [if_pos hr]
        have hw := wrG_at (σ := st.σ) (k := k') vs o (j - o) (by omega) (by omega)
        rw [show o + (j - o) = j from by omega] at hw
        rw [hw]
        have hmem : vs.getD (j - o) undef ∈ vs := by
          rw [List.getD_eq_getElem?_getD, List.getElem?_eq_getElem (by omega)]
          simp
        exact R_refl (hp _ hmem)
      · rw [if_neg hr, wrG_other]
        · exact h3 j hj
        · intro i h1 h2 e
          have := (gx_inj (by omega) (by omega) e).2
          omega
    · obtain ⟨hmm', c', T', h1', h2', h3', h4', h5', h6'⟩ := h.boxes k' m' hm
      have hne : θ k' ≠ θ k := fun e' => e (h.inj _ _ _ _ hm hk e').1
      refine ⟨hmm', c', T', (setB_ne hne).trans h1', h2', fun j hj => ?_, h4', h5', h6'⟩
      simp only [hgh k' m' hm e j hj]
      exact h3' j hj
  · intro t ht k' o' e
    simp only at e
    rw [wrG_slot _ _ _ (by omega)] at e
    exact h.fakes t ht k' o' e
  · intro k1 m1 hm j hj k' o' e
    by_cases ek : k1 = k
    · subst ek
      obtain rfl : m1 = m := (h.inj _ _ _ _ hm hk rfl).2
      simp only at e
      by_cases hr : o ≤ j ∧ j < o + vs.length
      · have hw := wrG_at (σ := st.σ) (k := k1) vs o (j - o) (by omega) (by omega)
        rw [show o + (j - o) = j from by omega] at hw
        rw [hw] at e
        have hmem : vs.getD (j - o) undef ∈ vs := by
          rw [List.getD_eq_getElem?_getD, List.getElem?_eq_getElem (by omega)]
          simp
        exact not_fake (hp _ hmem) k' o' e
      · rw [wrG_other] at e
        · exact h.ghosts k1 m1 hm j hj k' o' e
        · intro i h1 h2 e
          have := (gx_inj (by omega) (by omega) e).2
          omega
    · simp only [hgh k1 m1 hm ek j hj] at e
      exact h.ghosts k1 m1 hm j hj k' o' e
  · intro b hb
    rw [setB_size]; exact h.pubs b hb
  · refine ⟨h.mod.os, h.mod.tape, h.mod.output, by rw [setB_size]; exact h.mod.size, fun b hb hF => ?_⟩
    rw [setB_ne (by omega)]
    exact h.mod.keep b hb hF

end Go.Eng

/-
  The engine, fifth part: each operation does what W1 says.
-/
namespace Go.Eng
open Go.RowKit

def okOp (n : Nat) (x : Operand) : Bool :=
  match x with
  | .tmp t => Nat.blt t n
  | .const v => plain v
  | _ => true

def noDefer (o : Oper) : Bool := match o.op with | .defer _ => false | _ => true
def okOper (n : Nat) (o : Oper) : Bool := o.op.operands.toList.all (okOp n) && (match o.dst with | some d => Nat.blt d n | none => true) && noDefer o

theorem okOper_defer {n : Nat} {o : Oper} (hok : okOper n o = true) (c : Call) : o.op ≠ .defer c := by
  intro e
  simp [okOper, noDefer, e] at hok

theorem blt_iff {a b : Nat} : Nat.blt a b = true ↔ a < b := by simp [Nat.blt_eq]

variable {C : Ctx} {a : Act} {wa : World} {st : St} {u : UW} {θ : Nat → Nat}

theorem ev_R (hI : Inv C a wa st u θ) {x : Operand} (hx : okOp C.n x = true) : R θ (ev st.σ x) (a.eval x) := by
  cases x with
  | tmp t => exact hI.slots t (blt_iff.1 hx)
  | const v => exact R_refl hx
  | global g => exact R_refl rfl
  | func f => exact R_refl rfl

theorem ev_eq (hI : Inv C a wa st u θ) {x : Operand} (hx : okOp C.n x = true) (hp : plain (ev st.σ x) = true) : a.eval x = ev st.σ x := (R_plain hp).1 (ev_R hI hx)

theorem ev_val (hI : Inv C a wa st u θ) {x : Operand} (hx : okOp C.n x = true) {v : Value} (he : ev st.σ x = v) (hp : plain v = true) : a.eval x = v := by
  subst he; exact ev_eq hI hx hp

theorem ev_fk (hI : Inv C a wa st u θ) {x : Operand} (hx : okOp C.n x = true) {k o : Nat} (he : ev st.σ x = fake k o) : a.eval x = .pointer (some ⟨θ k, o, none⟩) ∧ ∃ m, (k, m) ∈ st.D := by
  have h := ev_R hI hx
  rw [he] at h
  refine ⟨h, ?_⟩
  cases x with
  | tmp t => exact hI.fakes t (blt_iff.1 hx) k o he
  | const v => simp only [ev] at he; subst he; simp [okOp, plain] at hx
  | global g => simp [ev] at he
  | func f => simp [ev] at he

/-- Behind an operation. -/
def PostW (C : Ctx) (fz : List Nat) (o : Oper) (st : St) (θ : Nat → Nat) (nd : Bool) (K : St → UW → Prop) (a' : Act) (wa' : World) : Prop :=
  ∃ st' u' θ', Inv C a' wa' st' u' θ' ∧ Pres C.n fz o.dst.toList st st' ∧ (∀ k m, (k, m) ∈ st.D → θ' k = θ k) ∧ (nd = false → st'.D = st.D) ∧ K st' u'

theorem dst_lt {n : Nat} {o : Oper} (hok : okOper n o = true) : ∀ t, o.dst = some t → t < n := by
  intro t ht
  simp only [okOper, Bool.and_eq_true] at hok
  have := hok.1.2
  rw [ht] at this
  exact blt_iff.1 this

theorem opd {n : Nat} {o : Oper} (hok : okOper n o = true) {x : Operand} (hx : x ∈ o.op.operands) : okOp n x = true := by
  simp only [okOper, Bool.and_eq_true, List.all_eq_true] at hok
  exact hok.1.1 x (by simpa using hx)

theorem post_fin {nd : Bool} {wb : World} {u' : UW} {fz : List Nat} {o : Oper} {K : St → UW → Prop} (hok : okOper C.n o = true) (hI : Inv C a wb st u' θ) {v r : Value} (hr : R θ v r)
    (hf : ∀ k o, v = fake k o → ∃ m, (k, m) ∈ st.D) (hK : K (fin o st v) u') : PostW C fz o st θ nd K (a.put o.dst r) wb :=
  ⟨_, _, _, hI.fin o.dst (dst_lt hok) hr hf, Pres.fin st o.dst (dst_lt hok) hI.n_le v, fun _ _ _ => rfl, fun _ => rfl, hK⟩

theorem post_finP {nd : Bool} {wb : World} {u' : UW} {fz : List Nat} {o : Oper} {K : St → UW → Prop} (hok : okOper C.n o = true) (hI : Inv C a wb st u' θ) {v : Value} (hp : plain v = true)
    (hK : K (fin o st v) u') : PostW C fz o st θ nd K (a.put o.dst v) wb :=
  post_fin hok hI (R_refl hp) (fun k o e => absurd e (not_fake hp k o)) hK

/-! ### types -/
theorem info_of_under {P : Program} {t : TypeId} {d : TypeDesc} (h : P.underlying t = some d) : ∃ i, P.info? t = some i := by
  unfold Program.underlying at h
  cases hi : P.info? t with
  | none => simp [hi] at h
  | some i => exact ⟨i, rfl⟩

theorem run_under {P : Program} {t : TypeId} {d : TypeDesc} {w : World} (h : P.underlying t = some d) : (underlying t).run P w = .ok d w := by
  simp [underlying, h]

theorem run_info {P : Program} {t : TypeId} {i : TypeInfo} {w : World} (h : P.info? t = some i) : (typeInfo t).run P w = .ok i w := by
  simp [typeInfo, h]

theorem run_size {P : Program} {t : TypeId} {i : TypeInfo} {w : World} (h : P.info? t = some i) : (sizeOf t).run P w = .ok (P.cellsOf t) w := by
  simp [sizeOf, run_info h, Program.cellsOf, h]

theorem run_zero {P : Program} {t : TypeId} {z : Value} {w : World} (h : (P.info? t).bind (·.zero) = some z) : (zeroValue t).run P w = .ok z w := by
  cases hi : P.info? t with
  | none => simp [hi] at h
  | some i => simp only [hi, Option.bind_some] at h; simp [zeroValue, run_info hi, h]

theorem run_isAgg {P : Program} {t : TypeId} {d : TypeDesc} {w : World} (h : P.underlying t = some d) : (isAgg t).run P w = .ok (aggT P t) w := by
  simp only [isAgg, Sem.run_bind, run_under h, Result.andThen_ok, aggT, h]
  cases d <;> rfl

theorem kinds_spec {P : Program} {t : TypeId} {ks : List K1} (h : kinds P t = some ks) : ks.length = P.cellsOf t ∧ (∃ d, P.underlying t = some d) ∧ (aggT P t = true ∨ ks.length = 1) := by
  unfold kinds at h
  cases hk : kindsF P 8 t with
  | none => simp [hk] at h
  | some ks' =>
    simp only [hk, Bool.cond_eq_ite, beq_iff] at h
    split at h
    · rename_i h1
      split at h
      · rename_i h2
        simp only [Option.some.injEq] at h
        subst h
        refine ⟨h1, ?_, ?_⟩
        · unfold kindsF at hk
          cases hu : P.underlying t with
          | none => simp [hu] at hk
          | some d => exact ⟨d, rfl⟩
        · simpa [beq_iff] using h2
      · cases h
    · cases h

theorem run_loadVar {P : Program} {w : World} {t : TypeId} {ks : List K1} {b o : Nat} {c : Array Value} {T : TypeId} {f : Nat × Nat} (hk : kinds P t = some ks) (h : w.heap[b]? = some (.cells c T f)) (hl : o + ks.length ≤ c.size) :
    (loadVar t ⟨b, o, none⟩).run P w = .ok (mkV (aggT P t) ((c.toList.drop o).take ks.length)) w := by
  obtain ⟨h1, ⟨d, hd⟩, h2⟩ := kinds_spec hk
  obtain ⟨i, hi⟩ := info_of_under hd
  simp only [loadVar, Sem.run_bind, run_isAgg hd, Result.andThen_ok]
  cases hag : aggT P t with
  | true =>
    simp only [if_true, Sem.run_bind, run_size hi, Result.andThen_ok]
    rw [← h1, loadCells_run h hl]
    rfl
  | false =>
    have hone : ks.length = 1 := by rcases h2 with h2 | h2; (rw [hag] at h2; cases h2); exact h2
    simp only [Bool.false_eq_true, if_false, run_load, cell_of h]
    have hlt : o < c.size := by omega
    rw [Array.getElem?_eq_getElem hlt, hone]
    have hlt' : o < c.toList.length := by simpa using hlt
    rw [List.drop_eq_getElem_cons hlt']
    simp [mkV]

theorem run_storeVar {P : Program} {w : World} {t : TypeId} {i : TypeInfo} {b o : Nat} {c : Array Value} {T : TypeId} {v : Value} (hi : P.info? t = some i) (hs : v.cells.size = P.cellsOf t) (h : w.heap[b]? = some (.cells c T (0, 0)))
    (hl : o + v.cells.size ≤ c.size) (ho : ∀ x ∈ v.cells.toList, one x = true) : (storeVar t ⟨b, o, none⟩ v).run P w = .ok () (setB w b (.cells (wrA c o v.cells.toList) T (0, 0))) := by
  simp only [storeVar, Sem.run_bind, run_size hi, Result.andThen_ok]
  rw [if_neg (by simp [hs])]
  rw [storeCells_run _ 0 w c h (by simpa using hl) ho]
  rfl

/-! ### reading what the engine's world shows -/
theorem rd_sees {w w1 : World} (hs : Sees w w1) {b o n : Nat} {vs : List Value} (h : rd w.heap b o n = some vs) (hn : n ≠ 0) : ∃ c T f, w1.heap[b]? = some (.cells c T f) ∧ o + n ≤ c.size ∧ vs = (c.toList.drop o).take n := by
  unfold rd at h
  cases hb : w.heap[b]? with
  | none => simp [hb] at h
  | some ob =>
    have hlt : b < w.heap.size := (Array.getElem?_eq_some_iff.1 hb).1
    cases ob <;> simp only [hb] at h <;> try (cases h; done)
    rename_i c T f
    split at h
    · rename_i hl
      simp only [Option.some.injEq] at h
      rcases hs.block b hlt with e | e
      · exact ⟨c, T, f, by rw [← e, hb], hl, h.symm⟩
      · rw [hb] at e
        simp only [Option.some.injEq, Obj.cells.injEq] at e
        obtain ⟨rfl, _, _⟩ := e
        simp at hl; omega
    · cases h

theorem rd_sees0 {w w1 : World} (hs : Sees w w1) {b o n : Nat} {vs : List Value} (h : rd w.heap b o n = some vs) : ∃ c T f, w1.heap[b]? = some (.cells c T f) ∧ vs.length = n ∨ n = 0 ∧ vs = [] := by
  by_cases hn : n = 0
  · subst hn
    unfold rd at h
    refine ⟨#[], 0, (0, 0), .inr ⟨rfl, ?_⟩⟩
    cases hb : w.heap[b]? with
    | none => simp [hb] at h
    | some ob =>
      cases ob <;> simp only [hb] at h <;> try (cases h; done)
      split at h
      · simp at h; exact h
      · cases h
  · obtain ⟨c, T, f, h1, h2, h3⟩ := rd_sees hs h hn
    exact ⟨c, T, f, .inl ⟨h1, by subst h3; simp; omega⟩⟩

theorem withPtr_elim {v : Value} {F : Nat → Nat → Prop} (h : withPtr v F) : ∃ b o, v = .pointer (some ⟨b, o, none⟩) ∧ F b o := by
  unfold withPtr at h
  split at h
  · exact ⟨_, _, rfl, h⟩
  · exact h.elim

theorem withSl_elim {v : Option Addr} {F : Nat → Nat → Prop} (h : withSl v F) : ∃ b o, v = some ⟨b, o, none⟩ ∧ F b o := by
  unfold withSl at h
  split at h
  · exact ⟨_, _, rfl, h⟩
  · exact h.elim

theorem mkV_plain {ag : Bool} {vs : List Value} (h : ∀ v ∈ vs, plain v = true ∧ one v = true) (hl : ag = true ∨ vs.length = 1) : plain (mkV ag vs) = true := by
  cases ag with
  | true => rfl
  | false =>
    rcases hl with hl | hl
    · cases hl
    · match vs, hl with
      | [v], _ => exact (h v (by simp)).1

theorem boxSize_mem : ∀ {D : List (Nat × Nat)} {k m : Nat}, boxSize D k = some m → (k, m) ∈ D
  | [], _, _, h => by simp [boxSize] at h
  | (k', m') :: D, k, m, h => by
    simp only [boxSize, Bool.cond_eq_ite, beq_iff] at h
    split at h
    · rename_i e; simp only [Option.some.injEq] at h; subst e h; simp
    · exact List.mem_cons_of_mem _ (boxSize_mem h)

theorem cells_drop_take {σ : Fr} {θ : Nat → Nat} {c : Array Value} {k m : Nat} (hc : c.size = m) (hr : ∀ j, j < m → R θ (σ (gx k j)) (c.getD j undef)) :
    ∀ (n o : Nat), o + n ≤ m → (∀ v ∈ rdG σ k o n, plain v = true ∧ one v = true) → (c.toList.drop o).take n = rdG σ k o n
  | 0, o, _, _ => by simp [rdG]
  | n + 1, o, hl, hp => by
    have hlt : o < c.toList.length := by simp; omega
    rw [List.drop_eq_getElem_cons hlt, List.take_succ_cons]
    simp only [rdG]
    have hpo : plain (σ (gx k o)) = true := (hp _ (by simp [rdG])).1
    have h1 := (R_plain hpo).1 (hr o (by omega))
    have h2 : c.toList[o] = σ (gx k o) := by
      rw [← h1]; simp only [Array.getElem_toList]; rw [Array.getD_eq_getD_getElem?, Array.getElem?_eq_getElem (by omega)]; rfl
    rw [h2, cells_drop_take hc hr n (o + 1) (by omega) (fun v hv => hp v (by simp [rdG, hv]))]


theorem wrA_list : ∀ (vs : List Value) (c : Array Value) (o : Nat), o + vs.length ≤ c.size → (wrA c o vs).toList = c.toList.take o ++ vs ++ c.toList.drop (o + vs.length)
  | [], c, o, _ => by simp [wrA]
  | v :: vs, c, o, h => by
    simp only [List.length_cons] at h
    simp only [wrA]
    rw [wrA_list vs _ (o + 1) (by simp; omega)]
    have ho : o < c.toList.length := by simp; omega
    simp only [Array.toList_setIfInBounds]
    have h1 : (c.toList.set o v).take (o + 1) = c.toList.take o ++ [v] := by
      rw [List.take_set]
      rw [List.take_succ_eq_append_getElem ho, List.set_append_right _ _ (by simp; omega)]
      have e : o - (c.toList.take o).length = 0 := by simp; omega
      rw [e]; rfl
    have h2 : (c.toList.set o v).drop (o + 1 + vs.length) = c.toList.drop (o + 1 + vs.length) := by
      rw [List.drop_set_of_lt (by omega)]
    rw [h1, h2]
    simp [Nat.add_assoc, Nat.add_comm 1]

theorem fold_wrA : ∀ (l : List (Value × Nat)) (vs : List Value) (i off : Nat) (c : Array Value), l = vs.zipIdx i → l.foldl (fun cs p => cs.setIfInBounds (off + p.2) p.1) c = wrA c (off + i) vs
  | [], vs, i, off, c, h => by
    cases vs with
    | nil => rfl
    | cons v vs => simp at h
  | p :: l, vs, i, off, c, h => by
    cases vs with
    | nil => simp at h
    | cons v vs =>
      simp only [List.zipIdx_cons, List.cons.injEq] at h
      obtain ⟨rfl, rfl⟩ := h
      simp only [List.foldl_cons, wrA]
      rw [fold_wrA _ vs (i + 1) off _ rfl]
      rfl

theorem fill_step (vs : Array Value) (off : Nat) (cs : Array Value) :
    (vs.zipIdx.foldl (fun cs (x : Value × Nat) => match x with | (c, j) => cs.setIfInBounds (off + j) c) cs) = wrA cs off vs.toList := by
  rw [← Array.foldl_toList, Array.toList_zipIdx]
  exact fold_wrA _ vs.toList 0 off cs rfl

/-! ### building -/
theorem run_mapM_list {P : Program} {w : World} {α β : Type} (g : α → Sem β) (k : α → β) : ∀ (l : List α), (∀ x ∈ l, (g x).run P w = .ok (k x) w) → (l.mapM g).run P w = .ok (l.map k) w
  | [], _ => by simp
  | x :: l, h => by
    simp only [List.mapM_cons, Sem.run_bind, h x (by simp), Result.andThen_ok, run_mapM_list g k l (fun y hy => h y (by simp [hy])), Sem.run_pure, List.map_cons]

theorem run_mapM {P : Program} {w : World} {α β : Type} (g : α → Sem β) (k : α → β) (l : Array α) (h : ∀ x ∈ l.toList, (g x).run P w = .ok (k x) w) : (l.mapM g).run P w = .ok (l.toList.map k).toArray w := by
  rw [Array.mapM_eq_mapM_toList]
  simp only [Sem.run_map, run_mapM_list g k l.toList h, Result.andThen_ok]

theorem bldS_fill {P : Program} {fs : Array Field} {pl : Nat → Option (Nat × Nat)} (hpl : ∀ (i : Nat) f, fs[i]? = some f → pl i = some (f.offset, P.cellsOf f.type)) :
    ∀ (ps : List (Nat × Value)) (cs : Array Value) (r : List Value), bldS P fs ps cs.toList = some r → Instr.fill pl cs ps = some r.toArray
  | [], cs, r, h => by simp only [bldS, Option.some.injEq] at h; subst h; simp [Instr.fill]
  | (i, v) :: ps, cs, r, h => by
    simp only [bldS] at h
    cases hf : fs[i]? with
    | none => simp [hf] at h
    | some f =>
      simp only [hf, Bool.cond_eq_ite, Bool.and_eq_true, beq_iff, Nat.ble_eq] at h
      split at h
      · rename_i hc
        obtain ⟨⟨h1, h2⟩, _⟩ := hc
        simp only [Array.length_toList] at h2
        simp only [Instr.fill, hpl i f hf]
        rw [if_neg (by simp [h1]; omega)]
        rw [fill_step]
        have hlen : v.cells.toList.length = v.cells.size := by simp
        refine bldS_fill hpl ps _ r ?_
        rw [wrA_list _ _ _ (by rw [hlen]; omega), hlen]
        exact h
      · cases h

theorem bldL_len {size : Nat} : ∀ {ps : List (Nat × Value)} {i : Nat} {r : List Value}, bldL size i ps = some r → r.length = ps.length * size
  | [], _, r, h => by simp only [bldL, Option.some.injEq] at h; subst h; simp
  | (j, v) :: ps, i, r, h => by
    simp only [bldL, Bool.cond_eq_ite, Bool.and_eq_true, beq_iff] at h
    split at h
    · rename_i hc
      cases hb : bldL size (i + 1) ps with
      | none => simp [hb] at h
      | some l =>
        simp only [hb, Option.some.injEq] at h
        subst h
        have := bldL_len hb
        simp only [List.length_append, List.length_cons, Array.length_toList, this, hc.2, Nat.add_mul, Nat.one_mul]; omega
    · cases h

theorem bldL_fill {size : Nat} : ∀ (ps : List (Nat × Value)) (i : Nat) (r : List Value) (cs : Array Value), bldL size i ps = some r → cs.size = (i + ps.length) * size →
    Instr.fill (fun i => some (i * size, size)) cs ps = some (cs.toList.take (i * size) ++ r).toArray
  | [], i, r, cs, h, hs => by
    simp only [bldL, Option.some.injEq] at h; subst h
    simp only [List.length_nil, Nat.add_zero] at hs
    simp only [Instr.fill, ← hs, List.append_nil, Option.some.injEq]
    rw [List.take_of_length_le (by simp)]
  | (j, v) :: ps, i, r, cs, h, hs => by
    simp only [bldL, Bool.cond_eq_ite, Bool.and_eq_true, beq_iff] at h
    split at h
    · rename_i hc
      obtain ⟨rfl, hv⟩ := hc
      cases hb : bldL size (i + 1) ps with
      | none => simp [hb] at h
      | some l =>
        simp only [hb, Option.some.injEq] at h
        subst h
        simp only [List.length_cons] at hs
        have hle : i * size + v.cells.size ≤ cs.size := by
          rw [hs, hv, ← Nat.succ_mul]; exact Nat.mul_le_mul_right _ (by omega)
        simp only [Instr.fill]
        rw [if_neg (by simp [hv]; omega), fill_step]
        have hlen : v.cells.toList.length = v.cells.size := by simp
        rw [bldL_fill ps (i + 1) l _ hb (by rw [wrA_size, hs]; congr 1; omega)]
        rw [wrA_list _ _ _ (by rw [hlen]; exact hle)]
        have e1 : (i + 1) * size = i * size + v.cells.size := by rw [Nat.succ_mul, hv]
        rw [e1, List.take_append_of_le_length (by simp; omega), List.take_of_length_le (by simp; omega)]
        simp
    · cases h

theorem run_build {P : Program} {w : World} {t : TypeId} {ps : Array (Nat × Value)} {r : List Value} (h : bld P t ps.toList = some r) : (Instr.build t ps).run P w = .ok (.agg r.toArray) w := by
  unfold bld at h
  cases hz : (P.info? t).bind (·.zero) with
  | none => simp [hz] at h
  | some z =>
    cases hu : P.underlying t with
    | none => simp [hz, hu] at h
    | some d =>
      cases d <;> simp only [hz, hu] at h <;> try (cases h; done)
      case array len e =>
        simp only [Bool.cond_eq_ite, Bool.and_eq_true, beq_iff] at h
        split at h
        · rename_i hc
          obtain ⟨⟨hie, hl⟩, hsz⟩ := hc
          obtain ⟨ie, hie⟩ := Option.isSome_iff_exists.1 hie
          simp only [Instr.build, Sem.run_bind, run_zero hz, Result.andThen_ok, run_under hu, run_size hie]
          have hf := bldL_fill ps.toList 0 r z.cells h (by rw [hsz, Nat.zero_add, hl])
          simp only [Nat.zero_mul, List.take_zero, List.nil_append] at hf
          rw [hf]
          rfl
        · cases h
      rename_i fs
      simp only [Bool.cond_eq_ite, List.all_eq_true] at h
      split at h
      · rename_i hall
        have hmap : ∀ w : World, (fs.mapM fun f => (do pure (f.offset, ← sizeOf f.type) : Sem (Nat × Nat))).run P w = .ok (fs.toList.map fun f => (f.offset, P.cellsOf f.type)).toArray w := by
          intro w
          refine run_mapM _ _ _ fun f hf => ?_
          obtain ⟨i, hi⟩ := Option.isSome_iff_exists.1 (hall f hf)
          simp [run_size hi]
        simp only [Instr.build, Sem.run_bind, run_zero hz, Result.andThen_ok, run_under hu, hmap]
        rw [bldS_fill (fs := fs) ?_ ps.toList z.cells r h]
        · rfl
        · intro i f hf
          simp [hf]
      · cases h

end Go.Eng
