import Derived.OrdersHeld
import Derived.OrdersIn
import Derived.RangeFuncNested
import Derived.Below
import Derived.KernelRfl
/-
  The engine, first part: frames as functions, private boxes as ghost slots, typed existentials, heap reading.
-/
namespace Go.Eng
open Go.RowKit

abbrev Fr := Nat → Value
abbrev Heap := Array Obj

/-- A pointer to private box k at offset o, and a slot of which nothing is known. -/
@[reducible] def fake (k o : Nat) : Value := .complex .f64 k o
@[reducible] def poison : Value := .complex .f32 0 0

def plain : Value → Bool
  | .complex _ _ _ => false
  | _ => true

def one : Value → Bool
  | .agg _ | .tuple _ => false
  | _ => true

/-- How a value of the engine's frame stands to the machine's. -/
def R (θ : Nat → Nat) (v r : Value) : Prop :=
  match v with
  | .complex .f64 k o => r = .pointer (some ⟨θ k, o, none⟩)
  | .complex .f32 _ _ => True
  | v => r = v

theorem R_plain {θ : Nat → Nat} {v r : Value} (h : plain v = true) : R θ v r ↔ r = v := by
  cases v <;> simp_all [R, plain]

theorem R_refl {θ : Nat → Nat} {v : Value} (h : plain v = true) : R θ v v := (R_plain h).2 rfl

def upd (σ : Fr) (t : Nat) (v : Value) : Fr := fun i => bif Nat.beq i t then v else σ i

@[simp] theorem upd_same (σ : Fr) (t : Nat) (v : Value) : upd σ t v t = v := by simp [upd]
theorem upd_ne (σ : Fr) {t i : Nat} (v : Value) (h : i ≠ t) : upd σ t v i = σ i := by
  have : Nat.beq i t = false := by
    cases hb : Nat.beq i t with
    | false => rfl
    | true => exact absurd (Nat.eq_of_beq_eq_true hb) h
  simp [upd, this]

def put (σ : Fr) (d : Option Nat) (v : Value) : Fr := match d with | some t => upd σ t v | none => σ

/-- The ghost slot of cell j of private box k. -/
def gx (k j : Nat) : Nat := (k + 1) * 65536 + j

def wrG (σ : Fr) (k : Nat) : Nat → List Value → Fr
  | _, [] => σ
  | j, v :: vs => wrG (upd σ (gx k j) v) k (j + 1) vs

def rdG (σ : Fr) (k : Nat) : Nat → Nat → List Value
  | _, 0 => []
  | j, m + 1 => σ (gx k j) :: rdG σ k (j + 1) m

theorem rdG_length (σ : Fr) (k : Nat) : ∀ (m j : Nat), (rdG σ k j m).length = m
  | 0, _ => rfl
  | m + 1, j => by simp [rdG, rdG_length σ k m (j + 1)]

theorem rdG_getElem? (σ : Fr) (k : Nat) : ∀ (m j i : Nat), i < m → (rdG σ k j m)[i]? = some (σ (gx k (j + i)))
  | m + 1, j, 0, _ => by simp [rdG]
  | m + 1, j, i + 1, h => by
    simp only [rdG, List.getElem?_cons_succ]
    rw [rdG_getElem? σ k m (j + 1) i (by omega)]
    congr 3; omega

def ev (σ : Fr) : Operand → Value
  | .tmp t => σ t
  | .const v => v
  | .global g => .pointer (some ⟨g, 0, none⟩)
  | .func f => .func (.func f) #[] #[]

/-- Reading n cells of block b from offset o on. -/
def rd (H : Heap) (b o n : Nat) : Option (List Value) :=
  match H[b]? with
  | some (.cells c _ _) => if o + n ≤ c.size then some ((c.toList.drop o).take n) else none
  | _ => none

inductive K1 where
  | int (k : IntKind) | bool | str | slice | ptr | fn | map | val
  deriving DecidableEq, Inhabited

@[reducible] def K1.T : K1 → Type
  | .int _ => Int
  | .bool => Bool
  | .str => ByteArray
  | .slice => Option Addr × Nat × Nat
  | .ptr => Option Addr
  | .fn => Fn × Array Value × Array Value
  | .map => Option Nat
  | .val => Empty

def K1.v : (k : K1) → k.T → Value
  | .int k, x => .int k x
  | .bool, x => .bool x
  | .str, x => .string x
  | .slice, x => .slice x.1 x.2.1 x.2.2
  | .ptr, x => .pointer x
  | .fn, x => .func x.1 x.2.1 x.2.2
  | .map, x => .map x
  | .val, x => Empty.elim x

def K1.get : (k : K1) → Value → Option k.T
  | .int k, .int k' x => if k = k' then some x else none
  | .bool, .bool x => some x
  | .str, .string x => some x
  | .slice, .slice a n c => some (a, n, c)
  | .ptr, .pointer x => some x
  | .fn, .func f a b => some (f, a, b)
  | .map, .map x => some x
  | _, _ => none

theorem K1.get_v {k : K1} {v : Value} {x : k.T} (h : k.get v = some x) : v = k.v x := by
  cases k <;> cases v <;> simp_all [K1.get, K1.v]
  all_goals (first | exact h.2 | (subst h; exact ⟨rfl, rfl, rfl⟩))

theorem K1.plain_v (k : K1) (x : k.T) : plain (k.v x) = true := by cases k <;> first | rfl | exact Empty.elim x

/-- Typed existential over one cell, over a list of cells. -/
def exK : K1 → (Value → Prop) → Prop
  | .int k, F => ∃ x : Int, F (.int k x)
  | .bool, F => ∃ x : Bool, F (.bool x)
  | .str, F => ∃ x : ByteArray, F (.string x)
  | .slice, F => ∃ (a : Option Addr) (n c : Nat), F (.slice a n c)
  | .ptr, F => ∃ a : Option Addr, F (.pointer a)
  | .fn, F => ∃ (f : Fn) (a b : Array Value), F (.func f a b)
  | .map, F => ∃ a : Option Nat, F (.map a)
  | .val, _ => False

def exL : List K1 → (List Value → Prop) → Prop
  | [], F => F []
  | k :: ks, F => exK k fun v => exL ks fun vs => F (v :: vs)

theorem exK_elim {k : K1} {F : Value → Prop} (h : exK k F) : ∃ v, plain v = true ∧ one v = true ∧ F v := by
  cases k <;> simp only [exK] at h
  case int => obtain ⟨x, h⟩ := h; exact ⟨_, rfl, rfl, h⟩
  case bool => obtain ⟨x, h⟩ := h; exact ⟨_, rfl, rfl, h⟩
  case str => obtain ⟨x, h⟩ := h; exact ⟨_, rfl, rfl, h⟩
  case slice => obtain ⟨a, n, c, h⟩ := h; exact ⟨_, rfl, rfl, h⟩
  case ptr => obtain ⟨x, h⟩ := h; exact ⟨_, rfl, rfl, h⟩
  case fn => obtain ⟨f, a, b, h⟩ := h; exact ⟨_, rfl, rfl, h⟩
  case map => obtain ⟨x, h⟩ := h; exact ⟨_, rfl, rfl, h⟩

theorem exL_elim : ∀ {ks : List K1} {F : List Value → Prop}, exL ks F → ∃ vs, vs.length = ks.length ∧ (∀ v ∈ vs, plain v = true ∧ one v = true) ∧ F vs
  | [], _, h => ⟨[], rfl, by simp, h⟩
  | k :: ks, F, h => by
    obtain ⟨v, hp, h1, h⟩ := exK_elim h
    obtain ⟨vs, hl, hps, h⟩ := exL_elim h
    exact ⟨v :: vs, by simp [hl], by simpa using ⟨⟨hp, h1⟩, hps⟩, h⟩

/-- A value in a slot that is carried over a loop's head or a join: one cell, a struct, a private box with its contents. -/
inductive Kd where
  | one (k : K1)
  | agg (ks : List K1)
  | box (ks : List K1)
  deriving DecidableEq, Inhabited

@[reducible] def TL : List K1 → Type
  | [] => Unit
  | [k] => k.T
  | k :: k' :: ks => k.T × TL (k' :: ks)

def TLv : (ks : List K1) → TL ks → List Value
  | [], _ => []
  | [k], x => [k.v x]
  | k :: k' :: ks, x => k.v x.1 :: TLv (k' :: ks) x.2

def TLget : (ks : List K1) → List Value → Option (TL ks)
  | [], [] => some ()
  | [k], [v] => k.get v
  | k :: k' :: ks, v :: vs => match k.get v, TLget (k' :: ks) vs with
    | some x, some y => some (x, y)
    | _, _ => none
  | _, _ => none

theorem TLget_v : ∀ {ks : List K1} {vs : List Value} {x : TL ks}, TLget ks vs = some x → vs = TLv ks x
  | [], [], _, _ => rfl
  | [], _ :: _, _, h => by simp [TLget] at h
  | [k], [], _, h => by simp [TLget] at h
  | [k], [v], x, h => by simp only [TLget] at h; simp [TLv, K1.get_v h]
  | [k], v :: v' :: vs, _, h => by simp [TLget] at h
  | k :: k' :: ks, [], _, h => by simp [TLget] at h
  | k :: k' :: ks, v :: vs, x, h => by
    simp only [TLget] at h
    split at h
    · rename_i a b ha hb
      simp only [Option.some.injEq] at h
      subst h
      simp [TLv, K1.get_v ha, TLget_v hb]
    · cases h

theorem TLv_plain : ∀ (ks : List K1) (x : TL ks), ∀ v ∈ TLv ks x, plain v = true
  | [], _ => by simp [TLv]
  | [k], x => by simp [TLv, K1.plain_v]
  | k :: k' :: ks, x => by
    intro v hv
    simp only [TLv, List.mem_cons] at hv
    rcases hv with rfl | hv
    · exact K1.plain_v _ _
    · exact TLv_plain (k' :: ks) x.2 v hv

theorem TLv_length : ∀ (ks : List K1) (x : TL ks), (TLv ks x).length = ks.length
  | [], _ => rfl
  | [k], x => rfl
  | k :: k' :: ks, x => by simp [TLv, TLv_length (k' :: ks) x.2]

@[reducible] def Kd.T : Kd → Type
  | .one k => k.T
  | .agg ks => TL ks
  | .box ks => TL ks

abbrev Live := List (Nat × Kd)

@[reducible] def Tup : Live → Type
  | [] => Unit
  | [x] => x.2.T
  | x :: y :: l => x.2.T × Tup (y :: l)

structure St where
  σ : Fr
  D : List (Nat × Nat)

/-- A world, and the blocks in it that may be written. -/
structure UW extends World where
  pub : Nat → Prop

def UW.born (u : UW) (b : Nat) (w' : World) : UW := ⟨w', fun c => u.pub c ∨ c = b⟩
def UW.sto (u : UW) (w' : World) : UW := ⟨w', u.pub⟩
def UW.ret (u : UW) (lo : Nat) (w' : World) : UW := ⟨w', fun c => u.pub c ∨ (lo ≤ c ∧ c < w'.heap.size)⟩

def hasBox : List (Nat × Nat) → Nat → Nat → Bool
  | [], _, _ => false
  | (k, m) :: D, k', m' => (Nat.beq k k' && Nat.beq m m') || hasBox D k' m'

theorem beq_iff {a b : Nat} : Nat.beq a b = true ↔ a = b := ⟨Nat.eq_of_beq_eq_true, fun h => by subst h; exact Nat.beq_refl a⟩

theorem hasBox_iff {D : List (Nat × Nat)} {k m : Nat} : hasBox D k m = true ↔ (k, m) ∈ D := by
  induction D with
  | nil => simp [hasBox]
  | cons x D ih =>
    obtain ⟨a, b⟩ := x
    simp only [hasBox, Bool.or_eq_true, Bool.and_eq_true, beq_iff, ih, List.mem_cons, Prod.mk.injEq]
    constructor
    · rintro (⟨rfl, rfl⟩ | h)
      · exact .inl ⟨rfl, rfl⟩
      · exact .inr h
    · rintro (⟨rfl, rfl⟩ | h)
      · exact .inl ⟨rfl, rfl⟩
      · exact .inr h

def isBox : List (Nat × Nat) → Nat → Bool
  | [], _ => false
  | (k, _) :: D, k' => Nat.beq k k' || isBox D k'

theorem isBox_iff {D : List (Nat × Nat)} {k : Nat} : isBox D k = true ↔ ∃ m, (k, m) ∈ D := by
  induction D with
  | nil => simp [isBox]
  | cons x D ih =>
    obtain ⟨a, b⟩ := x
    simp only [isBox, Bool.or_eq_true, beq_iff, ih, List.mem_cons, Prod.mk.injEq]
    constructor
    · rintro (h | ⟨m, h⟩)
      · exact ⟨b, .inl ⟨h.symm, rfl⟩⟩
      · exact ⟨m, .inr h⟩
    · rintro ⟨m, ⟨rfl, _⟩ | h⟩
      · exact .inl rfl
      · exact .inr ⟨m, h⟩

/-- What the slot holds, typed. -/
def getD1 (st : St) : (x : Nat × Kd) → Option x.2.T
  | (t, .one k) => k.get (st.σ t)
  | (t, .agg ks) => match st.σ t with
    | .agg a => TLget ks a.toList
    | _ => none
  | (t, .box ks) => match st.σ t with
    | .complex .f64 k o => bif (Nat.beq k t && Nat.beq o 0) && hasBox st.D t ks.length then TLget ks (rdG st.σ t 0 ks.length) else none
    | _ => none

def getLive (st : St) : (l : Live) → Option (Tup l)
  | [] => some ()
  | [x] => getD1 st x
  | x :: y :: l => match getD1 st x, getLive st (y :: l) with
    | some a, some b => some (a, b)
    | _, _ => none

def setD1 (st : St) : (x : Nat × Kd) → x.2.T → St
  | (t, .one k), v => { st with σ := upd st.σ t (k.v v) }
  | (t, .agg ks), v => { st with σ := upd st.σ t (.agg (TLv ks v).toArray) }
  | (t, .box ks), v => { st with σ := wrG (upd st.σ t (fake t 0)) t 0 (TLv ks v), D := bif hasBox st.D t ks.length then st.D else (t, ks.length) :: st.D }

def setLive (st : St) : (l : Live) → Tup l → St
  | [], _ => st
  | [x], v => setD1 st x v
  | x :: y :: l, v => setLive (setD1 st x v.1) (y :: l) v.2

def memN : List Nat → Nat → Bool
  | [], _ => false
  | x :: l, y => Nat.beq x y || memN l y

theorem memN_iff {l : List Nat} {y : Nat} : memN l y = true ↔ y ∈ l := by
  induction l with
  | nil => simp [memN]
  | cons x l ih =>
    simp only [memN, Bool.or_eq_true, beq_iff, ih, List.mem_cons]
    exact ⟨fun h => h.imp Eq.symm id, fun h => h.imp Eq.symm id⟩

/-- What is carried, typed; the private boxes that are written and whose contents are not carried. -/
structure Cut where
  live : Live
  scrap : List (Nat × Nat)

def scrapG (σ : Fr) : List (Nat × Nat) → Fr
  | [] => σ
  | (k, m) :: l => scrapG (wrG (upd σ k (fake k 0)) k 0 (List.replicate m poison)) l

def isFake (v : Value) (k : Nat) : Bool :=
  match v with
  | .complex .f64 k' o => Nat.beq k' k && Nat.beq o 0
  | _ => false

def scrapOk (st : St) : List (Nat × Nat) → Bool
  | [] => true
  | (k, m) :: l => hasBox st.D k m && isFake (st.σ k) k && scrapOk st l

def pois (σ : Fr) (ws : List Nat) : Fr := fun t => bif Nat.blt t 65536 && memN ws t then poison else σ t

/-- The state behind a piece of code that writes the slots ws: those that are carried, typed; the others unknown. -/
def mix (st : St) (ws : List Nat) (c : Cut) (x : Tup c.live) : St :=
  setLive { st with σ := scrapG (pois st.σ ws) c.scrap } c.live x

def CIf (c : Bool) (A B : Prop) : Prop := match c with | true => A | false => B

theorem CIf_iff {c : Bool} {A B : Prop} : CIf c A B ↔ (c = true → A) ∧ (c = false → B) := by cases c <;> simp [CIf]

def CJoin {α β : Type} (A : (α → β → Prop) → Prop) (B : α → β → Prop) : Prop := ∃ J : α → β → Prop, A J ∧ ∀ s w, J s w → B s w

def LoopI {α β : Type} (body : (α → β → Prop) → α → β → Prop) (s : α) (w : β) : Prop :=
  ∃ I : Nat → α → β → Prop, (∃ n, I n s w) ∧ ∀ n s w, I n s w → body (fun s' w' => ∃ m, m < n ∧ I m s' w') s w

end Go.Eng
