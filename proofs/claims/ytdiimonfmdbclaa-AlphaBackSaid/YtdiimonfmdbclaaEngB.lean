import Derived.Test.YtdiimonfmdbclaaEngA
/-
  The engine, second part: what a piece of code asks of the state (W), by recursion on the code.
-/
namespace Go.Eng
open Go.RowKit

/-- The value of a computation that touches no memory. -/
def pv {α : Type} (P : Program) : Sem α → Option α
  | .pure a => some a
  | .program k => pv P (k P)
  | _ => none

/-- The new block that a computation makes first. -/
def pn {α : Type} (P : Program) : Sem α → Option (Obj × (Nat → Sem α))
  | .program k => pn P (k P)
  | .new o k => some (o, k)
  | _ => none

theorem pv_run {α : Type} {P : Program} : ∀ {s : Sem α} {a : α}, pv P s = some a → ∀ w, s.run P w = .ok a w
  | .pure a, b, h, w => by simp only [pv, Option.some.injEq] at h; subst h; rfl
  | .program k, b, h, w => by simp only [pv] at h; simp only [Sem.run]; exact pv_run h w
  | .load .., _, h, _ => by simp [pv] at h
  | .store .., _, h, _ => by simp [pv] at h
  | .new .., _, h, _ => by simp [pv] at h
  | .shape .., _, h, _ => by simp [pv] at h
  | .freeze .., _, h, _ => by simp [pv] at h
  | .frozen .., _, h, _ => by simp [pv] at h
  | .getObj .., _, h, _ => by simp [pv] at h
  | .setObj .., _, h, _ => by simp [pv] at h
  | .choose .., _, h, _ => by simp [pv] at h
  | .sys .., _, h, _ => by simp [pv] at h
  | .mark .., _, h, _ => by simp [pv] at h
  | .halt .., _, h, _ => by simp [pv] at h

theorem pn_run {α : Type} {P : Program} : ∀ {s : Sem α} {o : Obj} {k : Nat → Sem α}, pn P s = some (o, k) → ∀ w, s.run P w = (k w.heap.size).run P { w with heap := w.heap.push o }
  | .new o k, b, k', h, w => by simp only [pn, Option.some.injEq, Prod.mk.injEq] at h; obtain ⟨rfl, rfl⟩ := h; rfl
  | .program k, b, _, h, w => by simp only [pn] at h; simp only [Sem.run]; exact pn_run h w
  | .pure _, _, _, h, _ => by simp [pn] at h
  | .load .., _, _, h, _ => by simp [pn] at h
  | .store .., _, _, h, _ => by simp [pn] at h
  | .shape .., _, _, h, _ => by simp [pn] at h
  | .freeze .., _, _, h, _ => by simp [pn] at h
  | .frozen .., _, _, h, _ => by simp [pn] at h
  | .getObj .., _, _, h, _ => by simp [pn] at h
  | .setObj .., _, _, h, _ => by simp [pn] at h
  | .choose .., _, _, h, _ => by simp [pn] at h
  | .sys .., _, _, h, _ => by simp [pn] at h
  | .mark .., _, _, h, _ => by simp [pn] at h
  | .halt .., _, _, h, _ => by simp [pn] at h

structure Env where
  P : Program
  n : Nat
  priv : List Nat
  loops : List (Nat × Cut)
  joins : List (Nat × Cut)
  rngs : List (Nat × List TypeId) := []

def look {α : Type} : List (Nat × α) → Nat → Option α
  | [], _ => none
  | (k, x) :: l, i => bif Nat.beq k i then some x else look l i

/-! ### types -/
def kindsF (P : Program) : Nat → TypeId → Option (List K1)
  | 0, _ => none
  | f + 1, t => match P.underlying t with
    | some (.int k) => some [.int k]
    | some .bool => some [.bool]
    | some .string => some [.str]
    | some (.slice _) => some [.slice]
    | some (.pointer _) => some [.ptr]
    | some (.func ..) => some [.fn]
    | some (.map ..) => some [.map]
    | some (.struct fs) => fs.toList.foldr (fun x acc => match kindsF P f x.type, acc with | some a, some b => some (a ++ b) | _, _ => none) (some [])
    | some (.array n e) => match kindsF P f e with
      | some ks => some ((List.replicate n ks).flatten)
      | none => none
    | _ => none

def aggT (P : Program) (t : TypeId) : Bool :=
  match P.underlying t with
  | some (.struct _) | some (.array _ _) => true
  | _ => false

/-- The kinds of the cells of a variable of type t, if they are as many as it has. -/
def kinds (P : Program) (t : TypeId) : Option (List K1) :=
  match kindsF P 8 t with
  | some ks => bif Nat.beq ks.length (P.cellsOf t) then (bif aggT P t || Nat.beq ks.length 1 then some ks else none) else none
  | none => none

def mkV : Bool → List Value → Value
  | true, vs => .agg vs.toArray
  | false, [v] => v
  | _, _ => poison

/-- Typed existential over the value of a variable of type t. -/
def exV (P : Program) (t : TypeId) (F : Value → Prop) : Prop :=
  match kinds P t with
  | some ks => exL ks fun vs => F (mkV (aggT P t) vs)
  | none => False

def exVs (P : Program) : List TypeId → (List Value → Prop) → Prop
  | [], F => F []
  | t :: ts, F => exV P t fun v => exVs P ts fun vs => F (v :: vs)

/-- .. over what a call hands back. -/
def exR (P : Program) (t : TypeId) (F : Value → Prop) : Prop :=
  match P.underlying t with
  | some (.tuple ts) => exVs P ts.toList fun vs => F (.tuple vs.toArray)
  | _ => exV P t F

/-- The offset of a field. -/
def fOff (P : Program) (t : TypeId) (f : Nat) : Option Nat :=
  match P.underlying t with
  | some (.struct fs) => match fs[f]? with
    | some x => bif Nat.beq (P.cellsOf x.type) 0 then none else some x.offset
    | none => none
  | _ => none

def elemT (P : Program) (t : TypeId) : Option TypeId :=
  match P.underlying t with
  | some (.slice e) => some e
  | _ => none

/-! ### values -/
def withPtr (v : Value) (F : Nat → Nat → Prop) : Prop :=
  match v with
  | .pointer (some ⟨b, o, none⟩) => F b o
  | _ => False

def withSl (a : Option Addr) (F : Nat → Nat → Prop) : Prop :=
  match a with
  | some ⟨b, o, none⟩ => F b o
  | _ => False

def nn (a : Option Addr) (A : Prop) : Prop :=
  match a with
  | some _ => A
  | none => False

def strEq (a b : ByteArray) : Bool := a.toList == b.toList

theorem strEq_iff {a b : ByteArray} : strEq a b = true ↔ a = b := by
  unfold strEq
  rw [beq_iff_eq]
  constructor
  · intro h
    obtain ⟨⟨a⟩⟩ := a
    obtain ⟨⟨b⟩⟩ := b
    have ha : ∀ (l : List UInt8), (ByteArray.mk ⟨l⟩).toList = l := by
      intro l
      have : ∀ (n i : Nat) (r : List UInt8), n = (ByteArray.mk ⟨l⟩).size - i → ByteArray.toList.loop (ByteArray.mk ⟨l⟩) i r = r.reverse ++ l.drop i := by
        intro n
        induction n with
        | zero =>
          intro i r h
          rw [ByteArray.toList.loop.eq_def]
          have : ¬ i < (ByteArray.mk ⟨l⟩).size := by omega
          rw [if_neg this]
          have hs : (ByteArray.mk ⟨l⟩).size = l.length := rfl
          rw [List.drop_of_length_le (by omega)]
          simp
        | succ n ih =>
          intro i r h
          rw [ByteArray.toList.loop.eq_def]
          have hs : (ByteArray.mk ⟨l⟩).size = l.length := rfl
          have hi : i < (ByteArray.mk ⟨l⟩).size := by omega
          rw [if_pos hi, ih (i + 1) _ (by omega)]
          have hi' : i < l.length := by omega
          have hg : (ByteArray.mk ⟨l⟩).get! i = l[i] := by
            simp [ByteArray.get!, hi']
          rw [hg, List.drop_eq_getElem_cons hi']
          simp
      have h0 := this _ 0 [] rfl
      simpa [ByteArray.toList] using h0
    rw [ha, ha] at h
    subst h; rfl
  · rintro rfl; rfl

/-- Two structs' cells, one by one. -/
def eqs : List K1 → List Value → List Value → Option Bool
  | [], [], [] => some true
  | .int _ :: ks, .int k a :: xs, .int k' b :: ys => bif decide (k = k') then (match eqs ks xs ys with | some r => some ((a == b) && r) | none => none) else none
  | .bool :: ks, .bool a :: xs, .bool b :: ys => match eqs ks xs ys with | some r => some ((a == b) && r) | none => none
  | .str :: ks, .string a :: xs, .string b :: ys => match eqs ks xs ys with | some r => some (strEq a b && r) | none => none
  | _, _, _ => none

def eqTs (g : TypeId → Option (List K1)) : Nat → List Field → Option (List K1)
  | _, [] => some []
  | a, x :: fs => match g x.type with
    | some l => bif decide (x.name ≠ "_") && Nat.beq x.offset a then (match eqTs g (a + l.length) fs with | some r => some (l ++ r) | none => none) else none
    | none => none

/-- A type whose values are held against each other cell by cell. -/
def eqT (P : Program) : Nat → TypeId → Option (List K1)
  | 0, _ => none
  | f + 1, t => match P.underlying t with
    | some (.int k) => some [.int k]
    | some .bool => some [.bool]
    | some .string => some [.str]
    | some (.struct fs) => bif P.stoodInHeld t then none else match eqTs (eqT P f) 0 fs.toList with
      | some l => bif Nat.beq l.length (P.cellsOf t) then some l else none
      | none => none
    | _ => none

def intBin (op : BinOp) (k : IntKind) (a b : Int) (K : Value → Prop) : Prop :=
  match op with
  | .add => K (.int k (k.wrap (a + b)))
  | .sub => K (.int k (k.wrap (a - b)))
  | .mul => K (.int k (k.wrap (a * b)))
  | .quo => b ≠ 0 ∧ K (.int k (k.wrap (a.tdiv b)))
  | .rem => b ≠ 0 ∧ K (.int k (a.tmod b))
  | .eql => K (.bool (a == b))
  | .neq => K (.bool (a != b))
  | .lss => K (.bool (decide (a < b)))
  | .leq => K (.bool (decide (a ≤ b)))
  | .gtr => K (.bool (decide (a > b)))
  | .geq => K (.bool (decide (a ≥ b)))
  | _ => False

def strBin (op : BinOp) (a b : ByteArray) (K : Value → Prop) : Prop :=
  match op with
  | .add => a.size + b.size < 9223372036854775808 ∧ K (.string (a ++ b))
  | .eql => K (.bool (strEq a b))
  | .neq => K (.bool (!strEq a b))
  | .lss => K (.bool (Op.bytesLess a.toList b.toList))
  | .leq => K (.bool (Op.bytesLess a.toList b.toList || strEq a b))
  | .gtr => K (.bool (!(Op.bytesLess a.toList b.toList || strEq a b)))
  | .geq => K (.bool (!Op.bytesLess a.toList b.toList))
  | _ => False

def cBin (P : Program) (op : BinOp) (t : TypeId) (x y : Value) (K : Value → Prop) : Prop :=
  match x, y with
  | .int k a, .int k' b => bif decide (k = k') then intBin op k a b K else False
  | .string a, .string b => strBin op a b K
  | .bool a, .bool b => match P.underlying t with
    | some .bool => match op with
      | .eql => K (.bool (a == b))
      | .neq => K (.bool (!(a == b)))
      | _ => False
    | _ => False
  | .agg a, .agg b => match eqT P 8 t with
    | none => False
    | some ks => bif (Nat.beq ks.length a.size && Nat.beq ks.length b.size) && !P.eqGuardType P.depth t && aggT P t then
      (match eqs ks a.toList b.toList with
      | some r => match op with
        | .eql => K (.bool r)
        | .neq => K (.bool (!r))
        | _ => False
      | none => False) else False
  | .pointer a, .pointer none => match P.underlying t with
    | some (.pointer _) => match op with
      | .eql => K (.bool a.isNone)
      | .neq => K (.bool (!a.isNone))
      | _ => False
    | _ => False
  | .slice a _ _, .slice none _ _ => match P.underlying t with
    | some (.slice _) => match op with
      | .eql => K (.bool a.isNone)
      | .neq => K (.bool (!a.isNone))
      | _ => False
    | _ => False
  | .func _ _ _, .nilFunc => match P.underlying t with
    | some (.func ..) => match op with
      | .eql => K (.bool false)
      | .neq => K (.bool true)
      | _ => False
    | _ => False
  | _, _ => False

/-! ### the world -/
structure Born (w w' : World) (b : Nat) (o : Obj) : Prop where
  below : Below w.heap.size w w'
  at_ : w'.heap[b]? = some o
  ge : w.heap.size ≤ b

structure Sto (w w' : World) (b : Nat) (o : Obj) : Prop where
  os : w'.os = w.os
  tape : w'.tape = w.tape
  output : w'.output = w.output
  size : w.heap.size ≤ w'.heap.size
  at_ : w'.heap[b]? = some o
  ne : ∀ c, c ≠ b → c < w.heap.size → w'.heap[c]? = w.heap[c]?

structure Mod (F : Nat → Prop) (w w' : World) : Prop where
  os : w'.os = w.os
  tape : w'.tape = w.tape
  output : w'.output = w.output
  size : w.heap.size ≤ w'.heap.size
  keep : ∀ b, b < w.heap.size → ¬ F b → w'.heap[b]? = w.heap[b]?

/-- What stands in the engine's world where a block is not its to know. -/
@[reducible] def masked : Obj := .cells #[] 0 (0, 0)

/-- The engine's world, and the machine's. -/
structure Sees (w w1 : World) : Prop where
  os : w1.os = w.os
  tape : w1.tape = w.tape
  output : w1.output = w.output
  size : w.heap.size ≤ w1.heap.size
  block : ∀ b, b < w.heap.size → w.heap[b]? = w1.heap[b]? ∨ w.heap[b]? = some masked

structure Out (F : Nat → Prop) (w w1 w' wr : World) : Prop where
  mod : Mod F w1 wr
  sees : Sees w' wr
  umod : Mod F w w'
  hid : ∀ b, w.heap.size ≤ b → b < w1.heap.size → b < w'.heap.size → w'.heap[b]? = some masked

/-- Function f, called in whatever world that w shows, hands back v; of what was there it has touched the blocks of F at most; what it has made lies from 'lo' on. -/
def FnB (P : Program) (f : FuncId) (args : Array Value) (w : World) (F : Nat → Prop) (K : Value → Nat → World → Prop) : Prop :=
  ∀ w1, Sees w w1 → Calls P f args w1 fun e wr => ∃ v w', e = .returned v ∧ Out F w w1 w' wr ∧ K v w1.heap.size w'

def CallF (P : Program) (f : FuncId) (args : Array Value) (u : UW) (K : Value → UW → Prop) : Prop :=
  ∃ F : Nat → Prop, (∀ b, F b → u.pub b) ∧ FnB P f args u.toWorld F fun v lo w' => K v (u.ret lo w')

def callable (P : Program) (f : FuncId) : Bool :=
  match P.funcs[f]? with
  | some fn => !(fn.name == "runtime.NumGoroutine") && fn.body.isSome
  | none => false

/-- A round of a loop over a function, by a call of its yield. -/
def YCalls (P : Program) (l : Nat) (args : List Value) (w : World) (R : Ending → World → Prop) : Prop :=
  ∃ r : Loop, w.heap[l]? = some (.loop r) ∧ args.length = r.params.size ∧ RoundIn Fence.wide 0 P l r.fn ((r.params.zip args.toArray).foldl (fun t (p, v) => t.setIfInBounds p v) r.tmps) r.assign r.body w R

def VCalls (P : Program) (f : Value) (args : List Value) (w : World) (R : Ending → World → Prop) : Prop :=
  match f with
  | .func (.func g) first captured => callable P g = true ∧ Calls P g (first.toList ++ args ++ captured.toList).toArray w R
  | .func (.yield l) first captured => first = #[] ∧ captured = #[] ∧ YCalls P l args w R
  | _ => False

/-- As FnB, of a function value. -/
def ValB (P : Program) (f : Value) (args : List Value) (w : World) (F : Nat → Prop) (K : Value → Nat → World → Prop) : Prop :=
  ∀ w1, Sees w w1 → VCalls P f args w1 fun e wr => ∃ v w', e = .returned v ∧ Out F w w1 w' wr ∧ K v w1.heap.size w'

/-- A function value, called. -/
def CallV (P : Program) (f : Value) (args : List Value) (u : UW) (K : Value → UW → Prop) : Prop :=
  match f with
  | .func (.func g) first captured => bif callable P g then CallF P g (first.toList ++ args ++ captured.toList).toArray u K else False
  | f => ∃ F : Nat → Prop, (∀ b, F b → u.pub b) ∧ ValB P f args u.toWorld F fun v lo w' => K v (u.ret lo w')

def fnOk (f : Fn) (A : Prop) : Prop := match f with | .method _ => False | _ => A

def isLoop : Obj → Bool | .loop _ => true | _ => false

/-- A loop over a function: the record l is laid; yield runs the body; the pending jump. -/
def RangeF (P : Program) (f : Value) (body : List Value → (Option Code → UW → Prop) → UW → Prop) (K : Option Code → UW → Prop) (u : UW) : Prop :=
  (∃ g a b, f = .func (.func g) a b) ∧ ∀ (l : Nat) (rec : Option Code → Obj) (w' : World), (∀ p, isLoop (rec p) = true) → Born u.toWorld w' l (rec none) →
    (∀ (vs : List Value) (w1 : World) (F : Nat → Prop) (R : Option Code → UW → Prop), w1.heap[l]? = some (rec none) → (∀ b, F b → b < w1.heap.size ∧ b ≠ l) → body vs R ⟨w1.putObj l masked, F⟩ →
      ValB P (.func (.yield l) #[] #[]) vs w1 (fun b => F b ∨ b = l) fun v lo w2 => ∃ p pub w3, v = .bool p.isNone ∧ w2 = w3.putObj l (rec p) ∧ w3.heap[l]? = some masked ∧ (∀ b, pub b → F b ∨ lo ≤ b) ∧ R p ⟨w3, pub⟩) →
    CallV P f [.func (.yield l) #[] #[]] (u.born l w') fun _ u' => ∃ p, u'.heap[l]? = some (rec p) ∧ K p ⟨u'.toWorld.putObj l masked, fun b => u'.pub b ∧ b ≠ l⟩

def wrA (c : Array Value) : Nat → List Value → Array Value
  | _, [] => c
  | o, v :: vs => wrA (c.setIfInBounds o v) (o + 1) vs

def cStore (b o : Nat) (vs : List Value) (u : UW) (K : UW → Prop) : Prop :=
  ∃ (c : Array Value) (T : TypeId), u.heap[b]? = some (.cells c T (0, 0)) ∧ o + vs.length ≤ c.size ∧ u.pub b ∧
    ∀ w', Sto u.toWorld w' b (.cells (wrA c o vs) T (0, 0)) → K (u.sto w')

def fin (o : Oper) (st : St) (v : Value) : St := { st with σ := put st.σ o.dst v }

def boxSize : List (Nat × Nat) → Nat → Option Nat
  | [], _ => none
  | (k, m) :: D, k' => bif Nat.beq k k' then some m else boxSize D k'

def allPlain (vs : List Value) : Bool := vs.all fun v => plain v && one v

/-- The address of a slice that is cut from l on (m is its new end of capacity). -/
def slA (a : Option Addr) (l m size : Nat) : Option Addr := if m = l then a else a.map fun x => ⟨x.block, x.off + l * size, none⟩

def optInt (ρ : Operand → Value) (x : Option Operand) (d : Int) : Option Int :=
  match x with
  | none => some d
  | some x => match ρ x with
    | .int _ i => some i
    | _ => none

def noSpot (a : Option Addr) : Prop := ∀ x, a = some x → x.spot = none

/-- append: what was there, what comes, room or no room. -/
def cApp (P : Program) (e : TypeId) (base : Option Addr) (n cap : Nat) (xb : Option Addr) (m : Nat) (u : UW) (K : Option Addr → Nat → Nat → UW → Prop) : Prop :=
  ∃ (size bytes : Nat) (zero : List Value) (old new : List Value),
    (P.info? e).map (fun i => (i.size, i.bytes, i.zero.map fun z => z.cells.toList)) = some (size, bytes, some zero) ∧
    (m = 0 → new = []) ∧ (m ≠ 0 → withSl xb fun b o => rd u.heap b o (m * size) = some new) ∧
    (n = 0 → old = []) ∧ (n ≠ 0 → withSl base fun b o => rd u.heap b o (n * size) = some old) ∧
    n ≤ cap ∧ (n + m) * bytes ≤ 140737488355328 ∧ n + m < 4611686018427387904 ∧ zero.length = size ∧ (∀ v ∈ new, one v = true) ∧
    (n + m ≤ cap → (m = 0 ∧ K base n cap u) ∨ (m ≠ 0 ∧ withSl base fun b o => cStore b (o + n * size) new u fun u' => K base (n + m) cap u')) ∧
    (cap < n + m → ∀ (c b : Nat) (rest : List Value) (w' : World), n + m ≤ c → rest.length = (c - (n + m)) * size → Born u.toWorld w' b (.cells (old ++ new ++ rest).toArray e (0, 0)) →
      K (some ⟨b, 0, none⟩) (n + m) c (u.born b w'))

def intsOf (ρ : Operand → Value) : List Operand → Option (IntKind × List Int)
  | [] => none
  | [x] => match ρ x with | .int k i => some (k, [i]) | _ => none
  | x :: l => match ρ x, intsOf ρ l with
    | .int k i, some (k', is) => bif decide (k = k') then some (k, i :: is) else none
    | _, _ => none

/-- A struct out of its parts. -/
def bldS (P : Program) (fs : Array Field) : List (Nat × Value) → List Value → Option (List Value)
  | [], cs => some cs
  | (i, v) :: ps, cs => match fs[i]? with
    | some f => bif Nat.beq v.cells.size (P.cellsOf f.type) && Nat.ble (f.offset + v.cells.size) cs.length && (P.info? f.type).isSome then
        bldS P fs ps (cs.take f.offset ++ v.cells.toList ++ cs.drop (f.offset + v.cells.size)) else none
    | none => none

/-- A slice out of all its parts, in order. -/
def bldL (size : Nat) : Nat → List (Nat × Value) → Option (List Value)
  | _, [] => some []
  | i, (j, v) :: ps => bif Nat.beq i j && Nat.beq v.cells.size size then (match bldL size (i + 1) ps with | some l => some (v.cells.toList ++ l) | none => none) else none

def bld (P : Program) (t : TypeId) (ps : List (Nat × Value)) : Option (List Value) :=
  match (P.info? t).bind (·.zero), P.underlying t with
  | some z, some (.struct fs) => bif fs.toList.all fun f => (P.info? f.type).isSome then bldS P fs ps z.cells.toList else none
  | some z, some (.array len e) => bif (P.info? e).isSome && Nat.beq ps.length len && Nat.beq z.cells.size (len * P.cellsOf e) then bldL (P.cellsOf e) 0 ps else none
  | _, _ => none

/-- An element of an array. -/
def eltV (P : Program) (e : TypeId) (off : Nat) (cs : List Value) : Option Value :=
  bif (P.underlying e).isSome && Nat.ble (off + P.cellsOf e) cs.length then (bif aggT P e then some (.agg ((cs.drop off).take (P.cellsOf e)).toArray) else cs[off]?) else none

def fldV (P : Program) (t : TypeId) (f : Nat) (cs : List Value) : Option Value :=
  match P.underlying t with
  | some (.struct fs) => match fs[f]? with
    | some x => bif (P.underlying x.type).isSome && Nat.ble (x.offset + P.cellsOf x.type) cs.length then
        (bif aggT P x.type then some (.agg ((cs.drop x.offset).take (P.cellsOf x.type)).toArray) else cs[x.offset]?) else none
    | none => none
  | _ => none

/-- A builtin's call. -/
def W1b (E : Env) (o : Oper) (st : St) (w : UW) (b : Builtin) (args : List Operand) (ts : List TypeId) (K : St → UW → Prop) : Prop :=
  match b, args, ts with
  | .len, [x], [t] => match E.P.underlying t, ev st.σ x with
    | some (.slice _), .slice _ n _ => K (fin o st (.int .i64 n)) w
    | some .string, .string s => K (fin o st (.int .i64 s.size)) w
    | some (.array n _), v => bif plain v then K (fin o st (.int .i64 n)) w else False
    | _, _ => False
  | .append, [x, y], [t, t'] => match E.P.underlying t, E.P.underlying t', ev st.σ x, ev st.σ y with
    | some (.slice e), some (.slice _), .slice base n cap, .slice xb m _ => cApp E.P e base n cap xb m w fun a n' c' w' => K (fin o st (.slice a n' c')) w'
    | _, _, _, _ => False
  | .min, xs, _ => match intsOf (ev st.σ) xs with
    | some (k, i :: is) => K (fin o st (.int k (is.foldl (fun x y => if y < x then y else x) i))) w
    | _ => False
  | .max, xs, _ => match intsOf (ev st.σ) xs with
    | some (k, i :: is) => K (fin o st (.int k (is.foldl (fun x y => if y > x then y else x) i))) w
    | _ => False
  | _, _, _ => False

/-- One operation. -/
def W1 (E : Env) (fz : List Nat) (o : Oper) (st : St) (w : UW) (K : St → UW → Prop) : Prop :=
  let ρ := ev st.σ
  match o.op with
  | .move x | .assign x => K (fin o st (ρ x)) w
  | .pick c a b => match ρ c with
    | .bool t => CIf t (K (fin o st (ρ a)) w) (K (fin o st (ρ b)) w)
    | _ => False
  | .alloc t => match (E.P.info? t).bind (·.zero) with
    | none => False
    | some z => match o.dst with
      | none => False
      | some k => bif memN E.priv k then
          (bif !isBox st.D k && !memN fz k && allPlain z.cells.toList && Nat.ble z.cells.size 65536 then
            K { st with σ := wrG (upd st.σ k (fake k 0)) k 0 z.cells.toList, D := (k, z.cells.size) :: st.D } w else False)
        else ∀ (b : Nat) (w' : World), Born w.toWorld w' b (.cells z.cells t (0, 0)) → K (fin o st (.pointer (some ⟨b, 0, none⟩))) (w.born b w')
  | .box t x => bif plain (ρ x) then match o.dst with
      | none => False
      | some k => bif memN E.priv k then
          (bif !isBox st.D k && !memN fz k && allPlain (ρ x).cells.toList && Nat.ble (ρ x).cells.size 65536 then
            K { st with σ := wrG (upd st.σ k (fake k 0)) k 0 (ρ x).cells.toList, D := (k, (ρ x).cells.size) :: st.D } w else False)
        else ∀ (b : Nat) (w' : World), Born w.toWorld w' b (.cells (ρ x).cells t (0, 0)) → K (fin o st (.pointer (some ⟨b, 0, none⟩))) (w.born b w')
      else False
  | .build t ps => bif ps.toList.all fun p => plain (ρ p.2) then match bld E.P t (ps.toList.map fun p => (p.1, ρ p.2)) with
      | some vs => K (fin o st (.agg vs.toArray)) w
      | none => False else False
  | .buildSlice t len ps => bif (ps.toList.all fun p => plain (ρ p.2)) && Nat.beq ps.toList.length len then match elemT E.P t with
      | none => False
      | some e => match bldL (E.P.cellsOf e) 0 (ps.toList.map fun p => (p.1, ρ p.2)) with
        | some vs => bif Nat.ble vs.length 65536 && ((E.P.info? e).bind (·.zero)).isSome && !Nat.beq (E.P.cellsOf e) 0 then
            ∀ (b : Nat) (w' : World), Born w.toWorld w' b (.cells vs.toArray e (0, 0)) → K (fin o st (.slice (some ⟨b, 0, none⟩) len len)) (w.born b w') else False
        | none => False else False
  | .load t x => match kinds E.P t with
    | none => False
    | some ks => match ρ x with
      | .complex .f64 k off => match boxSize st.D k with
        | some m => bif Nat.ble (off + ks.length) m && allPlain (rdG st.σ k off ks.length) then K (fin o st (mkV (aggT E.P t) (rdG st.σ k off ks.length))) w else False
        | none => False
      | v => withPtr v fun b off => exL ks fun vs => rd w.heap b off ks.length = some vs ∧ K (fin o st (mkV (aggT E.P t) vs)) w
  | .store t x y => bif plain (ρ y) && Nat.beq (ρ y).cells.size (E.P.cellsOf t) && allPlain (ρ y).cells.toList && (E.P.info? t).isSome then match ρ x with
      | .complex .f64 k off => match boxSize st.D k with
        | some m => bif Nat.ble (off + (ρ y).cells.size) m && !memN fz k then K { st with σ := put (wrG st.σ k off (ρ y).cells.toList) o.dst undef } w else False
        | none => False
      | v => withPtr v fun b off => cStore b off (ρ y).cells.toList w fun w' => K (fin o st undef) w'
      else False
  | .nilCheck x => match ρ x with
    | .complex .f64 k off => K (fin o st (fake k off)) w
    | .pointer a => nn a (K (fin o st (.pointer a)) w)
    | .func f a b => fnOk f (K (fin o st (.func f a b)) w)
    | _ => False
  | .binOp op t x y _ => cBin E.P op t (ρ x) (ρ y) fun v => K (fin o st v) w
  | .unOp op _ x => match op, ρ x with
    | .not, .bool b => K (fin o st (.bool (!b))) w
    | .neg, .int k n => K (fin o st (.int k (k.wrap (0 - n)))) w
    | _, _ => False
  | .convert src dst x => bif plain (ρ x) then match pv E.P (convert src dst (ρ x)) with
      | some v => bif plain v then K (fin o st v) w else False
      | none => False else False
  | .makeInterface t x => bif plain (ρ x) then match pv E.P (Instr.makeInterface t (ρ x)) with
      | some v => bif plain v then K (fin o st v) w else False
      | none => False else False
  | .makeSlice t x y => match E.P.underlying t, ρ x, ρ y with
    | some (.slice e), .int _ i, .int _ j => match (E.P.info? e).map (fun i => (i.size, i.bytes, i.zero.map fun z => z.cells.toList)) with
      | some (size, bytes, some zero) => bif Nat.beq zero.length size && !Nat.beq size 0 then
          0 ≤ i ∧ i ≤ j ∧ j < 4611686018427387904 ∧ j.toNat * bytes ≤ 140737488355328 ∧
          ∀ (b : Nat) (w' : World), Born w.toWorld w' b (.cells (List.replicate j.toNat zero).flatten.toArray e (0, 0)) → K (fin o st (.slice (some ⟨b, 0, none⟩) i.toNat j.toNat)) (w.born b w') else False
      | _ => False
    | _, _, _ => False
  | .makeFunc fn first captured => bif first.toList.all (fun x => plain (ρ x)) && captured.toList.all (fun x => plain (ρ x)) then
      K (fin o st (.func fn (first.toList.map ρ).toArray (captured.toList.map ρ).toArray)) w else False
  | .slice t x lo hi mx => match E.P.underlying t, ρ x with
    | some (.slice e), .slice a len cap => match optInt ρ lo 0, optInt ρ hi len, optInt ρ mx cap with
      | some l, some h, some m => (bif (mx.isSome && hi.isNone) || (E.P.info? e).isNone then False else (m.toNat = l.toNat ∨ noSpot a) ∧ 0 ≤ l ∧ l ≤ h ∧ h ≤ m ∧ m ≤ cap ∧ K (fin o st (.slice (slA a l.toNat m.toNat (E.P.cellsOf e)) (h.toNat - l.toNat) (m.toNat - l.toNat))) w)
      | _, _, _ => False
    | some .string, .string s => match mx with
      | some _ => False
      | none => match optInt ρ lo 0, optInt ρ hi s.size with
        | some l, some h => 0 ≤ l ∧ l ≤ h ∧ h ≤ s.size ∧ K (fin o st (.string (s.extract l.toNat h.toNat))) w
        | _, _ => False
    | _, _ => False
  | .fieldAddr t x f => match fOff E.P t f with
    | none => False
    | some d => match ρ x with
      | .complex .f64 k off => K (fin o st (fake k (off + d))) w
      | v => withPtr v fun b off => K (fin o st (.pointer (some ⟨b, off + d, none⟩))) w
  | .field t x f => match ρ x with
    | .agg cs => match fldV E.P t f cs.toList with
      | some v => bif plain v then K (fin o st v) w else False
      | none => False
    | _ => False
  | .indexAddr t x i => match E.P.underlying t, ρ x, ρ i with
    | some (.slice e), .slice a len _, .int _ j => bif (E.P.info? e).isSome then withSl a fun b off => 0 ≤ j ∧ j < len ∧ K (fin o st (.pointer (some ⟨b, off + j.toNat * E.P.cellsOf e, none⟩))) w else False
    | some (.array len e), .complex .f64 k off, .int _ j => bif decide (0 ≤ j) && decide (j < len) && (E.P.info? e).isSome then K (fin o st (fake k (off + j.toNat * E.P.cellsOf e))) w else False
    | _, _, _ => False
  | .index t x i => match E.P.underlying t, ρ x, ρ i with
    | some .string, .string s, .int _ j => 0 ≤ j ∧ ∃ c : UInt8, s[j.toNat]? = some c ∧ K (fin o st (.int .u8 c.toNat)) w
    | some (.array len e), .agg cs, .int _ j => 0 ≤ j ∧ j < len ∧ (E.P.info? e).isSome = true ∧ ∃ v, eltV E.P e (j.toNat * E.P.cellsOf e) cs.toList = some v ∧ plain v = true ∧ K (fin o st v) w
    | _, _, _ => False
  | .extract x i => match ρ x with
    | .tuple vs => match vs[i]? with
      | some v => bif plain v then K (fin o st v) w else False
      | none => False
    | _ => False
  | .call c => match c.callee with
    | .builtin b => W1b E o st w b c.args.toList c.argTypes.toList K
    | .value f => bif c.args.toList.all (fun x => plain (ρ x)) then
        CallV E.P (ρ f) (c.args.toList.map ρ) w fun v w' => exR E.P o.type fun v' => v = v' ∧ K (fin o st v') w' else False
    | .invoke x name => bif c.args.toList.all (fun x => plain (ρ x)) then match ρ x with
        | .iface t r => match pv E.P (method (E.P.types.size + Made.depth) t r name) with
          | some (g, r') => bif callable E.P g then CallF E.P g (r' :: c.args.toList.map ρ).toArray w fun v w' => exR E.P o.type fun v' => v = v' ∧ K (fin o st v') w' else False
          | none => False
        | _ => False else False
  | _ => False

/-- The slot that a guard looks at. -/
def gslot (ops : Array Oper) (j : Nat) : Option Nat := (ops[j]?).bind (·.dst)

/-- The operations of a region, one behind the other. -/
def Wl (E : Env) (fz : List Nat) (ops : Array Oper) (Q : St → UW → Prop) : List Oper → St → UW → Prop
  | [], st, w => Q st w
  | o :: l, st, w => match o.guard with
    | none => W1 E fz o st w fun st' w' => Wl E fz ops Q l st' w'
    | some (j, b) => match gslot ops j with
      | none => False
      | some g => match st.σ g with
        | .bool c => CIf c
            ((fun st1 => CIf b (W1 E fz o st1 w fun st' w' => Wl E fz ops Q l st' w') (Wl E fz ops Q l (fin o st1 undef) w)) { st with σ := upd st.σ g (.bool true) })
            ((fun st1 => CIf b (Wl E fz ops Q l (fin o st1 undef) w) (W1 E fz o st1 w fun st' w' => Wl E fz ops Q l st' w')) { st with σ := upd st.σ g (.bool false) })
        | .tuple _ => Wl E fz ops Q l (fin o st undef) w
        | _ => False

/-! ### regions that draw their order -/
/-- An operation that touches no memory, or only reads it. -/
def takeable (o : Oper) : Bool :=
  match o.op with
  | .move _ | .assign _ | .pick .. | .build .. | .load .. | .binOp .. | .unOp .. | .convert .. | .makeInterface .. | .makeFunc .. | .slice .. | .fieldAddr .. | .field .. | .indexAddr .. | .index .. | .extract .. | .nilCheck _ => true
  | .call ⟨.builtin .len, _, _⟩ | .call ⟨.builtin .min, _, _⟩ | .call ⟨.builtin .max, _, _⟩ => true
  | _ => false

/-- An operation that reads memory. -/
def reads (o : Oper) : Bool :=
  match o.op with
  | .load _ _ => true
  | _ => false
def readsI (ops : Array Oper) (i : Nat) : Bool := match ops[i]? with | some o => reads o | none => false

/-- What must come ahead of number j. -/
def preds (ops : Array Oper) (j : Nat) : List Nat :=
  match ops[j]? with
  | none => []
  | some o => (o.after.toList.filter fun e => Region.binds .any e).map (·.on)
def sweep (ops : Array Oper) : Nat → List Nat → List Nat
  | 0, S => S
  | i + 1, S => sweep ops i (bif memN S i then preds ops i ++ S else S)
def ances (ops : Array Oper) (j : Nat) : List Nat := sweep ops ops.size (preds ops j)

def lateIn (ops : Array Oper) (j : Nat) (S : List Nat) : Bool :=
  (List.range ops.size).any fun x => !Nat.beq x j && readsI ops x && !memN S x

/-- May an operation that only reads come behind number j? -/
def late (ops : Array Oper) (j : Nat) : Bool := lateIn ops j (ances ops j)

/-- Does it make a new block? -/
def isNew (o : Oper) : Bool := match o.op with | .alloc _ | .box _ _ | .buildSlice _ _ _ => true | _ => false
def newI (ops : Array Oper) (i : Nat) : Bool := match ops[i]? with | some o => isNew o | none => false
/-- .. and it is not just a new block that comes up. -/
def hard (ops : Array Oper) (j : Nat) : Bool := late ops j && !newI ops j

/-- In which order the operations are looked at: what only reads (tk), the one that may come up (ef), two that may (ef2), three (ef3). -/
inductive Plan where
  | nil
  | tk (i : Nat) (p : Plan)
  | ef (i : Nat) (p : Plan)
  | ef2 (i : Nat) (p : Plan) (j : Nat) (q : Plan)
  | ef3 (i : Nat) (p : Plan) (j : Nat) (q : Plan) (k : Nat) (r : Plan)

def anyTake (ops : Array Oper) : Plan → Bool
  | .nil => false
  | .tk i p => readsI ops i || anyTake ops p
  | .ef _ p => anyTake ops p
  | .ef2 _ p _ q => anyTake ops p || anyTake ops q
  | .ef3 _ p _ q _ r => anyTake ops p || anyTake ops q || anyTake ops r

def anyLate (ops : Array Oper) : Plan → Bool
  | .nil => false
  | .tk _ p => anyLate ops p
  | .ef i p => hard ops i || anyLate ops p
  | .ef2 i p j q => (hard ops i || anyLate ops p) || (hard ops j || anyLate ops q)
  | .ef3 i p j q k r => (hard ops i || anyLate ops p) || (hard ops j || anyLate ops q) || (hard ops k || anyLate ops r)

def findTake (ops : Array Oper) (listed : Array Bool) : List Nat → Option Nat
  | [] => none
  | i :: l => bif (match ops[i]? with | some o => takeable o | none => false) && Region.free .any ops listed i then some i else findTake ops listed l

def okAfter (ops : Array Oper) (i : Nat) (p : Plan) : Bool := hard ops i || (newI ops i || (!anyTake ops p && !anyLate ops p))

def planF (ops : Array Oper) : Nat → Array Bool → Option Plan
  | 0, listed => match Region.ready .any ops listed with
    | [] => some .nil
    | _ => none
  | f + 1, listed => match Region.ready .any ops listed with
    | [] => some .nil
    | i :: rs => match findTake ops listed (i :: rs) with
      | some j => match planF ops f (listed.setIfInBounds j true) with
        | some p => some (.tk j p)
        | none => none
      | none => match rs with
        | [] => match planF ops f (listed.setIfInBounds i true) with
          | some p => bif okAfter ops i p then some (.ef i p) else none
          | none => none
        | [j] => match planF ops f (listed.setIfInBounds i true), planF ops f (listed.setIfInBounds j true) with
          | some p, some q => bif okAfter ops i p && okAfter ops j q then some (.ef2 i p j q) else none
          | _, _ => none
        | [j, k] => match planF ops f (listed.setIfInBounds i true), planF ops f (listed.setIfInBounds j true), planF ops f (listed.setIfInBounds k true) with
          | some p, some q, some r => bif okAfter ops i p && okAfter ops j q && okAfter ops k r then some (.ef3 i p j q k r) else none
          | _, _, _ => none
        | _ => none

def privOp (priv : List Nat) (o : Oper) : Bool :=
  match o.op, o.dst with
  | .alloc _, some k | .box _ _, some k => memN priv k
  | _, _ => false

def mkPlan (ops : Array Oper) : Option Plan :=
  bif Region.noSelect ops then planF ops ops.size (Array.replicate ops.size false) else none

/-- Nothing that the world u0 shows has turned. -/
def Same (u0 u : UW) : Prop := Below u0.heap.size u0.toWorld u.toWorld

/-- An operation under its guard. -/
def guarded (ops : Array Oper) (o : Oper) (st : St) (act skip : St → Prop) : Prop :=
  match o.guard with
  | none => act st
  | some (j, b) => match gslot ops j with
    | none => False
    | some g => match st.σ g with
      | .bool c => CIf c
          ((fun st1 => CIf b (act st1) (skip st1)) { st with σ := upd st.σ g (.bool true) })
          ((fun st1 => CIf b (skip st1) (act st1)) { st with σ := upd st.σ g (.bool false) })
      | .tuple _ => skip st
      | _ => False

def stepT (E : Env) (fz : List Nat) (ops : Array Oper) (u0 : UW) (i : Nat) (st : St) (K : St → Prop) : Prop :=
  match ops[i]? with
  | none => False
  | some o => guarded ops o st (fun st1 => W1 E fz o st1 u0 fun st' _ => K st') (fun st1 => K (fin o st1 undef))

def stepE (E : Env) (fz : List Nat) (ops : Array Oper) (u0 : UW) (i : Nat) (st : St) (u : UW) (K : St → UW → Prop) : Prop :=
  match ops[i]? with
  | none => False
  | some o => bif privOp E.priv o then False else guarded ops o st
      (fun st1 => bif hard ops i then W1 E (fz ++ st1.D.map (·.1)) o st1 u (fun st' u' => Same u0 u' ∧ K st' u') else W1 E fz o st1 u K)
      (fun st1 => K (fin o st1 undef) u)

def Wd (E : Env) (fz : List Nat) (ops : Array Oper) (u0 : UW) (Q : St → UW → Prop) : Plan → St → UW → Prop
  | .nil, st, u => Q st u
  | .tk i p, st, u => stepT E fz ops u0 i st fun st' => Wd E fz ops u0 Q p st' u
  | .ef i p, st, u => stepE E fz ops u0 i st u fun st' u' => Wd E fz ops u0 Q p st' u'
  | .ef2 i p j q, st, u => (stepE E fz ops u0 i st u fun st' u' => Wd E fz ops u0 Q p st' u') ∧ (stepE E fz ops u0 j st u fun st' u' => Wd E fz ops u0 Q q st' u')
  | .ef3 i p j q k r, st, u => (stepE E fz ops u0 i st u fun st' u' => Wd E fz ops u0 Q p st' u') ∧ (stepE E fz ops u0 j st u fun st' u' => Wd E fz ops u0 Q q st' u') ∧ (stepE E fz ops u0 k st u fun st' u' => Wd E fz ops u0 Q r st' u')

/-- The number of the first region of a piece of code. -/
def firstR : Code → Option Nat
  | .region id _ _ => some id
  | .seq a b => match firstR a with | some i => some i | none => firstR b
  | .cond _ a b => match firstR a with | some i => some i | none => firstR b
  | .block _ a => firstR a
  | .loop a => firstR a
  | .scope a => firstR a
  | .rangeFunc _ _ a b => match firstR a with | some i => some i | none => firstR b
  | _ => none

/-- The slots that a piece of code writes. -/
def writes : Code → List Nat
  | .region _ ops _ => ops.toList.filterMap (·.dst)
  | .seq a b => writes a ++ writes b
  | .cond _ a b => writes a ++ writes b
  | .block _ a => writes a
  | .loop a => writes a
  | .scope a => writes a
  | _ => []

def toJ (c : Cut) (J : Tup c.live → UW → Prop) (st : St) (w : UW) : Prop :=
  bif scrapOk st c.scrap then (match getLive st c.live with
    | some s => J s w
    | none => False) else False

def cutBox (c : Cut) (k : Nat) : Bool :=
  (c.live.any fun x => match x with | (t, .box _) => Nat.beq t k | _ => false) || c.scrap.any fun x => Nat.beq x.1 k

/-- The boxes whose contents stay as they are within a piece of code at whose end stands c. -/
def freeze (fz : List Nat) (D : List (Nat × Nat)) (c : Cut) : List Nat :=
  fz ++ (D.map (·.1)).filter fun k => !cutBox c k

def thenQ (next : St → UW → Prop) (Q : Exit → St → UW → Prop) : Exit → St → UW → Prop
  | .normal, st, w => next st w
  | e, st, w => Q e st w

def blockQ (id : Nat) (Q : Exit → St → UW → Prop) : Exit → St → UW → Prop
  | .exit i, st, w => bif Nat.beq i id then Q .normal st w else Q (.exit i) st w
  | e, st, w => Q e st w

/-- What is carried must not be a frozen box. -/
def liveOk (fz : List Nat) (D : List (Nat × Nat)) (c : Cut) : Bool :=
  (c.live.all fun x => match x with | (t, .box ks) => !memN fz t && Nat.blt t 65536 && Nat.ble ks.length 65536 | (t, _) => Nat.blt t 65536 && !isBox D t) && c.scrap.all fun x => !memN fz x.1 && Nat.blt x.1 65536 && hasBox D x.1 x.2

/-- The blocks that a piece of code leaves by a jump; does it return? -/
def exitsOf : Code → List Nat
  | .exit i => [i]
  | .seq a b => exitsOf a ++ exitsOf b
  | .cond _ a b => exitsOf a ++ exitsOf b
  | .block id a => (exitsOf a).filter fun i => !Nat.beq i id
  | .loop a => exitsOf a
  | .scope a => exitsOf a
  | .rangeFunc _ _ _ b => exitsOf b
  | _ => []
def hasRet : Code → Bool
  | .ret => true
  | .seq a b => hasRet a || hasRet b
  | .cond _ a b => hasRet a || hasRet b
  | .block _ a => hasRet a
  | .loop a => hasRet a
  | .scope a => hasRet a
  | .rangeFunc _ _ _ b => hasRet b
  | _ => false
def undup : List Nat → List Nat
  | [] => []
  | x :: l => bif memN l x then undup l else x :: undup l

def lookP : List (Nat × Prop) → Nat → Prop
  | [], _ => False
  | (k, A) :: l, i => bif Nat.beq k i then A else lookP l i

/-- Behind a loop over a function, by the pending jump. -/
def PK (p : Option Code) (A B : Prop) (l : List (Nat × Prop)) : Prop :=
  match p with
  | none => A
  | some .ret => B
  | some (.exit i) => lookP l i
  | _ => False

def normQ (K : St → UW → Prop) : Exit → St → UW → Prop
  | .normal, st, u => K st u
  | _, _, _ => False

def roundQ (R : Option Code → UW → Prop) : Exit → St → UW → Prop
  | .normal, _, u => R none u
  | .ret, _, u => R (some .ret) u
  | .exit i, _, u => R (some (.exit i)) u
  | _, _, _ => False

/-- A round's temporaries: those of the frame, private boxes forgotten. -/
def rndS (σ : Fr) : Fr := fun t => match σ t with | .complex _ _ _ => poison | v => v

def setPs (σ : Fr) : List Nat → List Value → Fr
  | p :: ps, v :: vs => setPs (upd σ p v) ps vs
  | _, _ => σ

def W (E : Env) : List Nat → Code → (Exit → St → UW → Prop) → St → UW → Prop
  | _, .skip, Q, st, w => Q .normal st w
  | _, .ret, Q, st, w => Q .ret st w
  | _, .exit i, Q, st, w => Q (.exit i) st w
  | fz, .region _ ops false, Q, st, w => Wl E fz ops (Q .normal) ops.toList st w
  | fz, .region _ ops true, Q, st, w => bif E.P.follows .mixedOrders then (match mkPlan ops with
    | some p => Wd E fz ops w (Q .normal) p st w
    | none => False) else False
  | fz, .seq a b, Q, st, w => match (firstR b).bind (look E.joins) with
    | none => W E fz a (thenQ (fun st' w' => W E fz b Q st' w') Q) st w
    | some l => bif liveOk fz st.D l then CJoin (fun J => W E (freeze fz st.D l) a (thenQ (toJ l J) Q) st w) (fun s w' => W E fz b Q (mix st (writes a) l s) w') else False
  | fz, .cond c a b, Q, st, w => match ev st.σ c with
    | .bool t => CIf t (W E fz a Q st w) (W E fz b Q st w)
    | _ => False
  | fz, .block id a, Q, st, w => W E fz a (blockQ id Q) st w
  | fz, .loop a, Q, st, w => match (firstR a).bind (look E.loops) with
    | none => False
    | some l => bif liveOk fz st.D l then toJ l (LoopI fun next s w' => W E (freeze fz st.D l) a (thenQ (toJ l next) Q) (mix st (writes a) l s) w') st w else False
  | _, .rangeFunc f ps assign body, Q, st, w => match look E.rngs (ps.toList.headD 0) with
    | none => False
    | some ts => bif Nat.beq ts.length ps.toList.length then
        RangeF E.P (ev st.σ f) (fun vs R u => exVs E.P ts fun vs' => vs = vs' ∧ W E [] assign (normQ fun st1 u1 => W E [] body (roundQ R) st1 u1) ⟨setPs (rndS st.σ) ps.toList vs', []⟩ u)
          (fun p u => PK p (Q .normal st u) (bif hasRet body then Q .ret st u else False) ((undup (exitsOf body)).map fun i => (i, Q (.exit i) st u))) w
      else False
  | _, _, _, _, _ => False

def argF (args : List Value) : Fr := fun t => (args[t]?).getD undef

/-- What is handed back. -/
def resQ (P : Program) (st : St) (w : UW) : List ResultVar → (List Value → Prop) → Prop
  | [], F => F []
  | .tmp t :: l, F => bif plain (st.σ t) then resQ P st w l fun vs => F (st.σ t :: vs) else False
  | .cell a t :: l, F => match kinds P t with
    | none => False
    | some ks => match st.σ a with
      | .complex .f64 k off => match boxSize st.D k with
        | some m => bif Nat.ble (off + ks.length) m && allPlain (rdG st.σ k off ks.length) then resQ P st w l fun vs => F (mkV (aggT P t) (rdG st.σ k off ks.length) :: vs) else False
        | none => False
      | v => withPtr v fun b off => exL ks fun us => rd w.heap b off ks.length = some us ∧ resQ P st w l fun vs => F (mkV (aggT P t) us :: vs)

def tupR (R : Value → UW → Prop) (w : UW) : List Value → Prop
  | [v] => R v w
  | vs => R (.tuple vs.toArray) w

def retQ (P : Program) (rs : List ResultVar) (R : Value → UW → Prop) : Exit → St → UW → Prop
  | .ret, st, w => resQ P st w rs (tupR R w)
  | .normal, st, w => resQ P st w rs (tupR R w)
  | _, _, _ => False

/-- What a function asks of its arguments and the world. -/
def WF (P : Program) (n : Nat) (priv : List Nat) (loops joins : List (Nat × Cut)) (rngs : List (Nat × List TypeId)) (c : Code) (rs : List ResultVar) (args : List Value) (w : UW) (R : Value → UW → Prop) : Prop :=
  W ⟨P, n, priv, loops, joins, rngs⟩ [] c (retQ P rs R) ⟨argF args, []⟩ w

end Go.Eng
