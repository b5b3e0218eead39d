import Derived.Test.YtdiimonfmdbclaaPvA
/-
  What a piece of code asks of plain values (V), by recursion on the code.
-/
namespace Go.Eng
open Go.RowKit

/-! ### kinds -/
inductive KV where
  | raw (k : K1)
  | list (sz : Nat)
  | fn
  deriving DecidableEq, Inhabited

@[reducible] def KV.T : KV → Type
  | .raw k => k.T
  | .list _ => Fl × List (List PV)
  | .fn => Fn × List PV × List PV

def KV.p : (k : KV) → k.T → PV
  | .raw k, x => .raw (k.v x)
  | .list sz, x => .list sz x.1 x.2
  | .fn, x => .fn x.1 x.2.1 x.2.2

def nilRow : Fl → List (List PV) → Option (Fl × List (List PV))
  | .nil, [] => some (.nil, [])
  | _, _ => none

def KV.get : (k : KV) → PV → Option k.T
  | .raw k, .raw v => k.get v
  | .raw .slice, .list _ .nil _ => some (none, 0, 0)
  | .list sz, .list sz' fl rows => bif Nat.beq sz sz' then some (fl, rows) else nilRow fl rows
  | .fn, .fn f a b => some (f, a, b)
  | _, _ => none

def KV.er : KV → K1
  | .raw k => k
  | .list _ => .slice
  | .fn => .fn

def exKV : KV → (PV → Prop) → Prop
  | .raw k, F => exK k fun v => F (.raw v)
  | .list sz, F => ∃ (fl : Fl) (rows : List (List PV)), F (.list sz fl rows)
  | .fn, F => ∃ (f : Fn) (a b : List PV), F (.fn f a b)

def exLV : List KV → (List PV → Prop) → Prop
  | [], F => F []
  | k :: ks, F => exKV k fun v => exLV ks fun vs => F (v :: vs)

inductive KdP where
  | one (k : KV)
  | agg (ks : List KV)
  | box (ks : List KV)
  deriving DecidableEq, Inhabited

def KdP.er : KdP → Kd
  | .one k => .one k.er
  | .agg ks => .agg (ks.map KV.er)
  | .box ks => .box (ks.map KV.er)

@[reducible] def TLP : List KV → Type
  | [] => Unit
  | [k] => k.T
  | k :: k' :: ks => k.T × TLP (k' :: ks)

def TLPv : (ks : List KV) → TLP ks → List PV
  | [], _ => []
  | [k], x => [k.p x]
  | k :: k' :: ks, x => k.p x.1 :: TLPv (k' :: ks) x.2

def TLPget : (ks : List KV) → List PV → Option (TLP ks)
  | [], [] => some ()
  | [k], [v] => k.get v
  | k :: k' :: ks, v :: vs => match k.get v, TLPget (k' :: ks) vs with
    | some x, some y => some (x, y)
    | _, _ => none
  | _, _ => none

@[reducible] def KdP.T : KdP → Type
  | .one k => k.T
  | .agg ks => TLP ks
  | .box ks => TLP ks

abbrev LiveP := List (Nat × KdP)
def LiveP.er (l : LiveP) : Live := l.map fun x => (x.1, x.2.er)

@[reducible] def TupP : LiveP → Type
  | [] => Unit
  | [x] => x.2.T
  | x :: y :: l => x.2.T × TupP (y :: l)

/-! ### states -/
abbrev FrP := Nat → PV
structure PSt where
  σ : FrP
  D : List (Nat × Nat)

def updP (σ : FrP) (t : Nat) (v : PV) : FrP := fun i => bif Nat.beq i t then v else σ i
def putP (σ : FrP) (d : Option Nat) (v : PV) : FrP := match d with | some t => updP σ t v | none => σ
def wrGP (σ : FrP) (k : Nat) : Nat → List PV → FrP
  | _, [] => σ
  | j, v :: vs => wrGP (updP σ (gx k j) v) k (j + 1) vs
def rdGP (σ : FrP) (k : Nat) : Nat → Nat → List PV
  | _, 0 => []
  | j, m + 1 => σ (gx k j) :: rdGP σ k (j + 1) m

def getD1P (st : PSt) : (x : Nat × KdP) → Option x.2.T
  | (t, .one k) => k.get (st.σ t)
  | (t, .agg ks) => match st.σ t with
    | .agg a => TLPget ks a
    | _ => none
  | (t, .box ks) => match st.σ t with
    | .box k o => bif (Nat.beq k t && Nat.beq o 0) && hasBox st.D t ks.length then TLPget ks (rdGP st.σ t 0 ks.length) else none
    | _ => none

def getLiveP (st : PSt) : (l : LiveP) → Option (TupP l)
  | [] => some ()
  | [x] => getD1P st x
  | x :: y :: l => match getD1P st x, getLiveP st (y :: l) with
    | some a, some b => some (a, b)
    | _, _ => none

def setD1P (st : PSt) : (x : Nat × KdP) → x.2.T → PSt
  | (t, .one k), v => { st with σ := updP st.σ t (k.p v) }
  | (t, .agg ks), v => { st with σ := updP st.σ t (.agg (TLPv ks v)) }
  | (t, .box ks), v => { st with σ := wrGP (updP st.σ t (.box t 0)) t 0 (TLPv ks v), D := bif hasBox st.D t ks.length then st.D else (t, ks.length) :: st.D }

def setLiveP (st : PSt) : (l : LiveP) → TupP l → PSt
  | [], _ => st
  | [x], v => setD1P st x v
  | x :: y :: l, v => setLiveP (setD1P st x v.1) (y :: l) v.2

structure CutP where
  live : LiveP
  scrap : List (Nat × Nat)

def CutP.er (c : CutP) : Cut := ⟨c.live.er, c.scrap⟩

def scrapGP (σ : FrP) : List (Nat × Nat) → FrP
  | [] => σ
  | (k, m) :: l => scrapGP (wrGP (updP σ k (.box k 0)) k 0 (List.replicate m .poison)) l

def isBoxP (v : PV) (k : Nat) : Bool :=
  match v with
  | .box k' o => Nat.beq k' k && Nat.beq o 0
  | _ => false

def scrapOkP (st : PSt) : List (Nat × Nat) → Bool
  | [] => true
  | (k, m) :: l => hasBox st.D k m && isBoxP (st.σ k) k && scrapOkP st l

def poisP (σ : FrP) (ws : List Nat) : FrP := fun t => bif Nat.blt t 65536 && memN ws t then .poison else σ t

def mixP (st : PSt) (ws : List Nat) (c : CutP) (x : TupP c.live) : PSt :=
  setLiveP { st with σ := scrapGP (poisP st.σ ws) c.scrap } c.live x

/-! ### types -/
def kindsVF (P : Program) (r : Bool) : Nat → TypeId → Option (List KV)
  | 0, _ => none
  | f + 1, t => match P.underlying t with
    | some (.int k) => some [.raw (.int k)]
    | some .bool => some [.raw .bool]
    | some .string => some [.raw .str]
    | some (.slice e) => some [bif r then .raw .slice else .list (P.cellsOf e)]
    | some (.pointer _) => some [.raw .ptr]
    | some (.func ..) => some [.fn]
    | some (.map ..) => some [.raw .map]
    | some (.struct fs) => fs.toList.foldr (fun x acc => match kindsVF P r f x.type, acc with | some a, some b => some (a ++ b) | _, _ => none) (some [])
    | some (.array n e) => match kindsVF P r f e with
      | some ks => some ((List.replicate n ks).flatten)
      | none => none
    | _ => none

def kindsV (P : Program) (r : Bool) (t : TypeId) : Option (List KV) :=
  match kindsVF P r 8 t with
  | some ks => bif Nat.beq ks.length (P.cellsOf t) then (bif aggT P t || Nat.beq ks.length 1 then some ks else none) else none
  | none => none

def mkP : Bool → List PV → PV
  | true, vs => .agg vs
  | false, [v] => v
  | _, _ => .poison

def exVP (P : Program) (r : Bool) (t : TypeId) (F : PV → Prop) : Prop :=
  match kindsV P r t with
  | some ks => exLV ks fun vs => F (mkP (aggT P t) vs)
  | none => False

def exVsP (P : Program) (r : Bool) : List TypeId → (List PV → Prop) → Prop
  | [], F => F []
  | t :: ts, F => exVP P r t fun v => exVsP P r ts fun vs => F (v :: vs)

def exRP (P : Program) (r : Bool) (t : TypeId) (F : PV → Prop) : Prop :=
  match P.underlying t with
  | some (.tuple ts) => exVsP P r ts.toList fun vs => F (.tup vs)
  | _ => exVP P r t F

/-! ### constants -/
def ofV1 : Value → PV
  | .slice none 0 0 => .list 0 .nil []
  | .slice .. | .agg _ | .tuple _ | .complex .. | .iface .. => .poison
  | .func f a b => bif Nat.beq a.size 0 && Nat.beq b.size 0 then .fn f [] [] else .poison
  | v => .raw v

def allCell (ps : List PV) : Bool := ps.all PV.cell
def allOk (ps : List PV) : Bool := ps.all PV.ok

def ofV : Value → PV
  | .agg a => bif allCell (a.toList.map ofV1) then .agg (a.toList.map ofV1) else .poison
  | .tuple a => bif allOk (a.toList.map ofV1) then .tup (a.toList.map ofV1) else .poison
  | v => ofV1 v

/-- A list of no rows, of its size. -/
def nrm (sz : Nat) : PV → PV
  | .list 0 fl [] => .list sz fl []
  | p => p

def nrms : List KV → List PV → List PV
  | .list sz :: ks, p :: ps => nrm sz p :: nrms ks ps
  | _ :: ks, p :: ps => p :: nrms ks ps
  | _, ps => ps

def nrmT (P : Program) (t : TypeId) (p : PV) : PV :=
  match kindsV P false t with
  | some ks => match p with
    | .agg cs => .agg (nrms ks cs)
    | .list 0 fl [] => match ks with
      | [.list sz] => .list sz fl []
      | _ => p
    | p => p
  | none => p

def evP (σ : FrP) : Operand → PV
  | .tmp t => σ t
  | .const v => ofV v
  | .global g => pP g 0
  | .func f => .fn (.func f) [] []

/-- What is known of a list's place is forgotten. -/
def wk1 : PV → PV
  | .list sz _ rows => .list sz .sh rows
  | p => p
def wk2 : PV → PV
  | .agg cs => .agg (cs.map wk1)
  | p => p
def wk : PV → PV
  | .agg cs => .agg (cs.map wk1)
  | .tup vs => .tup (vs.map fun p => wk2 (wk1 p))
  | p => wk1 p

/-- An argument, as it is handed over. -/
def argP (P : Program) (t : TypeId) (p : PV) : PV := wk2 (nrmT P t p)

def argsP (P : Program) : List TypeId → List PV → List PV
  | t :: ts, p :: ps => argP P t p :: argsP P ts ps
  | _, ps => ps

/-! ### memory -/
def rdM (μ : Mem) (b o n : Nat) : Option (List PV) :=
  match μ b with
  | some (.cells _ cs) => if o + n ≤ cs.length then some ((cs.drop o).take n) else none
  | some (.ro _ cs) => if o + n ≤ cs.length then some ((cs.drop o).take n) else none
  | _ => none

def rowM (row : List PV) (o n : Nat) : Option (List PV) := if o + n ≤ row.length ∧ 0 < n then some ((row.drop o).take n) else none

def wrL (cs : List PV) (o : Nat) (vs : List PV) : List PV := cs.take o ++ vs ++ cs.drop (o + vs.length)

def stM (b o : Nat) (vs : List PV) (μ : Mem) (K : Mem → Prop) : Prop :=
  ∃ (T : TypeId) (cs : List PV), μ b = some (.cells T cs) ∧ o + vs.length ≤ cs.length ∧ K (μ.set b (some (.cells T (wrL cs o vs))))

def withPtrP (v : PV) (F : Nat → Nat → Prop) : Prop :=
  match v with
  | .raw (.pointer (some ⟨b, o, none⟩)) => F b o
  | _ => False

/-! ### calls -/
/-- Function g, called with these, hands back p and leaves a memory, so that K. -/
def CallP (P : Program) (g : FuncId) (args : List PV) (μ : Mem) (K : PV → Mem → Prop) : Prop :=
  ∀ (Z : Fz) (u : UW) (vs : List Value), Good Z u μ → (∀ b, u.pub b → b < u.heap.size) → Reps Z args vs → callable P g = true ∧ CallF P g vs.toArray u fun v u' => ∃ Z' μ' p, Ext Z μ u.heap.size Z' μ' ∧ Good Z' u' μ' ∧ Rep Z' p v ∧ K p μ'

/-- The same, of one that writes nothing that was there; what is new, beside. -/
def CallQ (P : Program) (g : FuncId) (args : List PV) (μ : Mem) (K : PV → Mem → Prop) : Prop :=
  ∀ (Z : Fz) (u : UW) (vs : List Value), Good Z u μ → (∀ b, u.pub b → b < u.heap.size) → Reps Z args vs → callable P g = true ∧ CallF P g vs.toArray ⟨u.toWorld, fun _ => False⟩ fun v u' => ∃ Z' μ' p, Ext Z M0 u.heap.size Z' μ' ∧ Good Z' u' μ' ∧ Rep Z' p v ∧ K p μ'

/-- A function value. -/
def CallVS (P : Program) (f : PV) (args : List PV) (μ : Mem) (K : PV → Mem → Prop) : Prop :=
  ∀ (Z : Fz) (u : UW) (fv : Value) (vs : List Value), Good Z u μ → (∀ b, u.pub b → b < u.heap.size) → Rep Z f fv → Reps Z args vs → CallV P fv vs u fun v u' => ∃ Z' μ' p, Ext Z μ u.heap.size Z' μ' ∧ Good Z' u' μ' ∧ Rep Z' p v ∧ K p μ'

def CallVP (P : Program) (f : PV) (args : List PV) (μ : Mem) (K : PV → Mem → Prop) : Prop :=
  match f with
  | .fn (.func g) first caps => CallP P g (first ++ args ++ caps) μ K
  | f => CallVS P f args μ K

def CallD (P : Program) (q : Bool) (f : PV) (args : List PV) (μ : Mem) (K : PV → Mem → Prop) : Prop :=
  bif q then (match f with
    | .fn (.func g) first caps => CallQ P g (first ++ args ++ caps) μ (fun p μ' => K p (μ.or μ'))
    | _ => False) else CallVP P f args μ K

/-- A loop over a function. -/
def RangeP (P : Program) (f : PV) (body : List PV → (Option Code → Mem → Prop) → Mem → Prop) (K : Option Code → Mem → Prop) (μ : Mem) : Prop :=
  (∃ g a b, f = .fn (.func g) a b) ∧ ∀ (l : Nat) (rec : Option Code → Ob), μ l = none →
    (∀ (vs : List PV) (μ1 : Mem) (R : Option Code → Mem → Prop), μ1 l = none → body vs R μ1 →
      CallVP P (.fn (.yield l) [] []) vs (μ1.set l (some (rec none))) fun v μ2 => ∃ p μ3, v = pB p.isNone ∧ μ3 l = none ∧ μ2 = μ3.set l (some (rec p)) ∧ R p μ3) →
    CallVP P f [.fn (.yield l) [] []] (μ.set l (some (rec none))) fun _ μ2 => ∃ p μ3, μ3 l = none ∧ μ2 = μ3.set l (some (rec p)) ∧ K p μ3

/-! ### operations -/
structure EnvP where
  P : Program
  n : Nat
  priv : List Nat
  loops : List (Nat × CutP)
  joins : List (Nat × CutP)
  rngs : List (Nat × List TypeId)
  cst : List Nat
  wrt : List Nat
  raws : List Nat

def EnvP.er (E : EnvP) : Env := ⟨E.P, E.n, E.priv, E.loops.map fun x => (x.1, x.2.er), E.joins.map fun x => (x.1, x.2.er), E.rngs⟩

def finP (o : Oper) (st : PSt) (v : PV) : PSt := { st with σ := putP st.σ o.dst v }

def bldSP (P : Program) (fs : Array Field) : List (Nat × PV) → List PV → Option (List PV)
  | [], cs => some cs
  | (i, v) :: ps, cs => match fs[i]? with
    | some f => bif Nat.beq v.cells.length (P.cellsOf f.type) && Nat.ble (f.offset + v.cells.length) cs.length && (P.info? f.type).isSome then
        bldSP P fs ps (cs.take f.offset ++ v.cells ++ cs.drop (f.offset + v.cells.length)) else none
    | none => none

def zeroP (P : Program) (t : TypeId) (z : Value) : PV := nrmT P t (ofV z)

/-- A slice out of all its parts, in order. -/
def bldLP (size : Nat) : Nat → List (Nat × PV) → Option (List (List PV))
  | _, [] => some []
  | i, (j, v) :: ps => bif Nat.beq i j && Nat.beq v.cells.length size then (match bldLP size (i + 1) ps with | some l => some (v.cells.map wk1 :: l) | none => none) else none

def bldP (P : Program) (t : TypeId) (ps : List (Nat × PV)) : Option (List PV) :=
  match (P.info? t).bind (·.zero), P.underlying t with
  | some z, some (.struct fs) => bif (zeroP P t z).ok && aggT P t && fs.toList.all fun f => (P.info? f.type).isSome then
      (match zeroP P t z with
      | .agg cs => bldSP P fs (ps.map fun p => (p.1, match fs[p.1]? with | some f => nrmT P f.type p.2 | none => p.2)) cs
      | _ => none) else none
  | some z, some (.array len e) => bif (P.info? e).isSome && Nat.beq ps.length len && Nat.beq z.cells.size (len * P.cellsOf e) then
      (match bldLP (P.cellsOf e) 0 (ps.map fun p => (p.1, nrmT P e p.2)) with
      | some rows => some rows.flatten
      | none => none) else none
  | _, _ => none

/-- An element of an array. -/
def eltP (P : Program) (e : TypeId) (off : Nat) (cs : List PV) : Option PV :=
  bif (P.underlying e).isSome && Nat.ble (off + P.cellsOf e) cs.length then (bif aggT P e then some (.agg ((cs.drop off).take (P.cellsOf e))) else cs[off]?) else none

def fldP (P : Program) (t : TypeId) (f : Nat) (cs : List PV) : Option PV :=
  match P.underlying t with
  | some (.struct fs) => match fs[f]? with
    | some x => bif (P.underlying x.type).isSome && Nat.ble (x.offset + P.cellsOf x.type) cs.length then
        (bif aggT P x.type then some (.agg ((cs.drop x.offset).take (P.cellsOf x.type))) else cs[x.offset]?) else none
    | none => none
  | _ => none

def optIntP (ρ : Operand → PV) (x : Option Operand) (d : Int) : Option Int :=
  match x with
  | none => some d
  | some x => match ρ x with
    | .raw (.int _ i) => some i
    | _ => none

def okSz (size sz : Nat) (rows : List (List PV)) : Bool := bif Nat.beq sz size then true else (match rows with | [] => true | _ => false)

def appN (rows : List (List PV)) (A B : Prop) : Prop := match rows with | [] => A | _ :: _ => B

/-- append of something to a list: its new place. -/
def appF (q : Bool) (size : Nat) (fl : Fl) (n m : Nat) (μ : Mem) (K : Fl → Mem → Prop) : Prop :=
  match fl with
  | .nr => ∀ b c, μ b = none → n + m ≤ c → K (.tip b c) (μ.set b (some (.tip ((n + m) * size) (c * size))))
  | .nil => ∀ b c, μ b = none → n + m ≤ c → K (.tip b c) (μ.set b (some (.tip ((n + m) * size) (c * size))))
  | .tip b c => bif q then False else μ b = some (.tip (n * size) (c * size)) ∧ ∀ b' c', (b' = b ∨ μ b' = none) → n + m ≤ c' →
      K (.tip b' c') ((μ.set b none).set b' (some (.tip ((n + m) * size) (c' * size))))
  | .sh => False

def appL (q : Bool) (size bytes : Nat) (fl : Fl) (rows new : List (List PV)) (μ : Mem) (K : Fl → Mem → Prop) : Prop :=
  (rows.length + new.length) * bytes ≤ 140737488355328 ∧ rows.length + new.length < 4611686018427387904 ∧ appN new (K fl μ) (appF q size fl rows.length new.length μ K)

/-- What is appended: cells. -/
def newC (size : Nat) (μ : Mem) (y : PV) (F : Nat → List PV → Prop) : Prop :=
  match y with
  | .list sz _ rows => bif okSz size sz rows then F rows.length rows.flatten else False
  | .raw (.slice (some ⟨b, o, none⟩) m _) => ∃ cs, rdM μ b o (m * size) = some cs ∧ F m cs
  | _ => False

/-- append to a slice of one's own cells. -/
def appR (size bytes : Nat) (e : TypeId) (a : Option Addr) (n c : Nat) (y : PV) (μ : Mem) (K : Option Addr → Nat → Nat → Mem → Prop) : Prop :=
  newC size μ y fun m new => (n + m) * bytes ≤ 140737488355328 ∧ n + m < 4611686018427387904 ∧ n ≤ c ∧ ((m = 0 ∧ (n ≠ 0 → ∃ b o old, a = some ⟨b, o, none⟩ ∧ rdM μ b o (n * size) = some old) ∧ K a n c μ) ∨ (m ≠ 0 ∧ allCell new = true ∧
    (n + m ≤ c → ∃ b o T cs, a = some ⟨b, o, none⟩ ∧ μ b = some (.cells T cs) ∧ o + c * size ≤ cs.length ∧ K a (n + m) c (μ.set b (some (.cells T (wrL cs (o + n * size) new))))) ∧
    (c < n + m → ∃ old, ((n = 0 ∧ old = []) ∨ ∃ b o, a = some ⟨b, o, none⟩ ∧ rdM μ b o (n * size) = some old) ∧ ∀ b' c', μ b' = none → n + m ≤ c' → K (some ⟨b', 0, none⟩) (n + m) c' (μ.set b' (some (.cells e (old ++ new ++ List.replicate ((c' - (n + m)) * size) .poison)))))))

def cAppP (P : Program) (q : Bool) (e : TypeId) (x y : PV) (μ : Mem) (K : PV → Mem → Prop) : Prop :=
  match (P.info? e).map (fun i => (i.size, i.bytes, i.zero.map fun z => z.cells.toList.length)) with
  | some (size, bytes, some zl) => bif Nat.beq zl size && !Nat.beq size 0 then (match x, y with
    | .list sz fl rows, .list sz' _ new => bif okSz size sz rows && okSz size sz' new then appL q size bytes fl rows new μ fun fl' μ' => K (.list size fl' (rows ++ new)) μ' else False
    | .raw (.slice a n c), y => bif q then False else appR size bytes e a n c y μ fun a' n' c' μ' => K (.raw (.slice a' n' c')) μ'
    | _, _ => False) else False
  | _ => False

def unraw : List PV → Option (List Value)
  | [] => some []
  | .raw v :: ps => match unraw ps with | some vs => some (v :: vs) | none => none
  | _ => none

def cBinP (P : Program) (op : BinOp) (t : TypeId) (x y : PV) (K : PV → Prop) : Prop :=
  match x, y with
  | .raw a, .raw b => cBin P op t a b fun v => K (.raw v)
  | .agg a, .agg b => match unraw a, unraw b with
    | some a, some b => cBin P op t (.agg a.toArray) (.agg b.toArray) fun v => K (.raw v)
    | _, _ => False
  | .fn f _ _, .raw .nilFunc => cBin P op t (.func f #[] #[]) .nilFunc fun v => K (.raw v)
  | _, _ => False

def intsP (ρ : Operand → PV) : List Operand → Option (IntKind × List Int)
  | [] => none
  | [x] => match ρ x with | .raw (.int k i) => some (k, [i]) | _ => none
  | x :: l => match ρ x, intsP ρ l with
    | .raw (.int k i), some (k', is) => bif decide (k = k') then some (k, i :: is) else none
    | _, _ => none

/-- nil, as a slice of one's own. -/
def toRaw (r : Bool) (p : PV) : PV := bif r then (match p with | .list _ .nil _ => .raw (.slice none 0 0) | p => p) else p

def rawO (E : EnvP) (o : Oper) : Bool := match o.dst with | some d => memN E.raws d | none => false
def wrtO (E : EnvP) (o : Oper) : Bool := match o.dst with | some d => memN E.wrt d | none => false

def V1b (E : EnvP) (q : Bool) (o : Oper) (st : PSt) (μ : Mem) (b : Builtin) (args : List Operand) (ts : List TypeId) (K : PSt → Mem → Prop) : Prop :=
  match b, args, ts with
  | .len, [x], [t] => match E.P.underlying t, evP st.σ x with
    | some (.slice _), .list _ _ rows => K (finP o st (pI rows.length)) μ
    | some (.slice _), .raw (.slice _ n _) => K (finP o st (pI n)) μ
    | some .string, .raw (.string s) => K (finP o st (pI s.size)) μ
    | some (.array n _), v => bif v.ok then K (finP o st (pI n)) μ else False
    | _, _ => False
  | .append, [x, y], [t, t'] => match E.P.underlying t, E.P.underlying t' with
    | some (.slice e), some (.slice _) => cAppP E.P q e (toRaw (rawO E o) (evP st.σ x)) (evP st.σ y) μ fun p μ' => K (finP o st p) μ'
    | _, _ => False
  | .min, xs, _ => match intsP (evP st.σ) xs with
    | some (k, i :: is) => K (finP o st (.raw (.int k (is.foldl (fun x y => if y < x then y else x) i)))) μ
    | _ => False
  | .max, xs, _ => match intsP (evP st.σ) xs with
    | some (k, i :: is) => K (finP o st (.raw (.int k (is.foldl (fun x y => if y > x then y else x) i)))) μ
    | _ => False
  | _, _, _ => False

/-- A new block, in one of three ways. -/
def newB (E : EnvP) (q : Bool) (fz : List Nat) (o : Oper) (st : PSt) (μ : Mem) (t : TypeId) (cs : List PV) (K : PSt → Mem → Prop) : Prop :=
  match o.dst with
  | none => False
  | some k => bif memN E.priv k then
      (bif !q && (!isBox st.D k && !memN fz k && allCell cs && Nat.ble cs.length 65536) then K { st with σ := wrGP (updP st.σ k (.box k 0)) k 0 cs, D := (k, cs.length) :: st.D } μ else False)
    else bif memN E.cst k then (bif allCell cs then K (finP o st (.fptr (cs.map wk1) 0)) μ else False)
    else ∀ b, μ b = none → K (finP o st (pP b 0)) (μ.set b (some (.cells t cs)))

/-- One operation. -/
def V1 (E : EnvP) (q : Bool) (fz : List Nat) (o : Oper) (st : PSt) (μ : Mem) (K : PSt → Mem → Prop) : Prop :=
  let ρ := evP st.σ
  let r := rawO E o
  match o.op with
  | .move x | .assign x => K (finP o st (nrmT E.P o.type (ρ x))) μ
  | .pick c a b => match ρ c with
    | .raw (.bool t) => CIf t (K (finP o st (nrmT E.P o.type (ρ a))) μ) (K (finP o st (nrmT E.P o.type (ρ b))) μ)
    | _ => False
  | .alloc t => match (E.P.info? t).bind (·.zero) with
    | none => False
    | some z => bif (zeroP E.P t z).ok then newB E q fz o st μ t ((zeroP E.P t z).cells.map (toRaw r)) K else False
  | .box t x => bif (ρ x).ok then newB E q fz o st μ t (nrmT E.P t (ρ x)).cells K else False
  | .build t ps => bif ps.toList.all fun p => (ρ p.2).ok then match bldP E.P t (ps.toList.map fun p => (p.1, ρ p.2)) with
      | some vs => K (finP o st (.agg vs)) μ
      | none => False else False
  | .buildSlice t len ps => bif (ps.toList.all fun p => (ρ p.2).ok) && Nat.beq ps.toList.length len then match elemT E.P t with
      | none => False
      | some e => match bldLP (E.P.cellsOf e) 0 (ps.toList.map fun p => (p.1, nrmT E.P e (ρ p.2))) with
        | some rows => bif Nat.ble rows.flatten.length 65536 && ((E.P.info? e).bind (·.zero)).isSome && !Nat.beq (E.P.cellsOf e) 0 then
            (bif wrtO E o then ∀ b, μ b = none → K (finP o st (.raw (.slice (some ⟨b, 0, none⟩) len len))) (μ.set b (some (.cells e rows.flatten)))
            else K (finP o st (.list (E.P.cellsOf e) .nr rows)) μ) else False
        | none => False else False
  | .load t x => match kindsV E.P r t with
    | none => False
    | some ks => match ρ x with
      | .box k off => match boxSize st.D k with
        | some m => bif Nat.ble (off + ks.length) m && allCell (rdGP st.σ k off ks.length) then K (finP o st (mkP (aggT E.P t) (rdGP st.σ k off ks.length))) μ else False
        | none => False
      | .fptr row off => exLV ks fun vs => rowM row off ks.length = some vs ∧ K (finP o st (mkP (aggT E.P t) vs)) μ
      | v => withPtrP v fun b off => exLV ks fun vs => rdM μ b off ks.length = some vs ∧ K (finP o st (mkP (aggT E.P t) vs)) μ
  | .store t x y => bif (ρ y).ok && Nat.beq (nrmT E.P t (ρ y)).cells.length (E.P.cellsOf t) && (E.P.info? t).isSome then match ρ x with
      | .box k off => match boxSize st.D k with
        | some m => bif Nat.ble (off + (nrmT E.P t (ρ y)).cells.length) m && !memN fz k then K { st with σ := putP (wrGP st.σ k off (nrmT E.P t (ρ y)).cells) o.dst (.tup []) } μ else False
        | none => False
      | v => bif q then False else withPtrP v fun b off => stM b off (nrmT E.P t (ρ y)).cells μ fun μ' => K (finP o st (.tup [])) μ'
      else False
  | .nilCheck x => match ρ x with
    | .box k off => K (finP o st (.box k off)) μ
    | .fptr row off => K (finP o st (.fptr row off)) μ
    | .raw (.pointer a) => nn a (K (finP o st (.raw (.pointer a))) μ)
    | .fn f a b => fnOk f (K (finP o st (.fn f a b)) μ)
    | _ => False
  | .binOp op t x y _ => cBinP E.P op t (ρ x) (ρ y) fun v => K (finP o st v) μ
  | .unOp op _ x => match op, ρ x with
    | .not, .raw (.bool b) => K (finP o st (pB (!b))) μ
    | .neg, .raw (.int k n) => K (finP o st (.raw (.int k (k.wrap (0 - n))))) μ
    | _, _ => False
  | .convert src dst x => match ρ x with
    | .raw v => match pv E.P (convert src dst v) with
      | some v' => bif plain v' && one v' then K (finP o st (.raw v')) μ else False
      | none => False
    | _ => False
  | .makeInterface t x => bif (ρ x).ok && (match E.P.underlying t with | some (.interface _) => false | some _ => true | none => false) then K (finP o st (.iface t (ρ x))) μ else False
  | .makeSlice t x y => match E.P.underlying t, ρ x, ρ y with
    | some (.slice e), .raw (.int _ i), .raw (.int _ j) => match (E.P.info? e).map (fun i => (i.size, i.bytes, i.zero.map fun z => (zeroP E.P e z).cells)) with
      | some (size, bytes, some zero) => bif Nat.beq zero.length size && !Nat.beq size 0 && allCell zero then
          0 ≤ i ∧ i ≤ j ∧ j < 4611686018427387904 ∧ j.toNat * bytes ≤ 140737488355328 ∧
          ∀ b, μ b = none → K (finP o st (.raw (.slice (some ⟨b, 0, none⟩) i.toNat j.toNat))) (μ.set b (some (.cells e (List.replicate j.toNat zero).flatten))) else False
      | _ => False
    | _, _, _ => False
  | .makeFunc fn first captured => bif first.toList.all (fun x => (ρ x).ok) && captured.toList.all (fun x => (ρ x).ok) then
      K (finP o st (.fn fn (first.toList.map fun x => wk (ρ x)) (captured.toList.map fun x => wk (ρ x)))) μ else False
  | .slice t x lo hi mx => match E.P.underlying t, ρ x with
    | some (.slice e), .list sz _ rows => match optIntP ρ lo 0, optIntP ρ hi rows.length, optIntP ρ mx rows.length with
      | some l, some h, some m => bif (mx.isSome && hi.isNone) || (E.P.info? e).isNone || !okSz (E.P.cellsOf e) sz rows then False else
          match mx with
          | none => 0 ≤ l ∧ l ≤ h ∧ h ≤ rows.length ∧ K (finP o st (.list (E.P.cellsOf e) .sh ((rows.take h.toNat).drop l.toNat))) μ
          | some _ => 0 ≤ l ∧ l ≤ h ∧ h ≤ rows.length ∧ m = h ∧ K (finP o st (.list (E.P.cellsOf e) .nr ((rows.take h.toNat).drop l.toNat))) μ
      | _, _, _ => False
    | some (.slice e), .raw (.slice a len cap) => match optIntP ρ lo 0, optIntP ρ hi len, optIntP ρ mx cap with
      | some l, some h, some m => (bif (mx.isSome && hi.isNone) || (E.P.info? e).isNone then False else noSpot a ∧ 0 ≤ l ∧ l ≤ h ∧ h ≤ m ∧ m ≤ cap ∧ K (finP o st (.raw (.slice (slA a l.toNat m.toNat (E.P.cellsOf e)) (h.toNat - l.toNat) (m.toNat - l.toNat)))) μ)
      | _, _, _ => False
    | some .string, .raw (.string s) => match mx with
      | some _ => False
      | none => match optIntP ρ lo 0, optIntP ρ hi s.size with
        | some l, some h => 0 ≤ l ∧ l ≤ h ∧ h ≤ s.size ∧ K (finP o st (pS (s.extract l.toNat h.toNat))) μ
        | _, _ => False
    | _, _ => False
  | .fieldAddr t x f => match fOff E.P t f with
    | none => False
    | some d => match ρ x with
      | .box k off => K (finP o st (.box k (off + d))) μ
      | .fptr row off => K (finP o st (.fptr row (off + d))) μ
      | v => withPtrP v fun b off => K (finP o st (pP b (off + d))) μ
  | .field t x f => match ρ x with
    | .agg cs => match fldP E.P t f cs with
      | some v => K (finP o st v) μ
      | none => False
    | _ => False
  | .indexAddr t x i => match E.P.underlying t, ρ x, ρ i with
    | some (.slice e), .list sz _ rows, .raw (.int _ j) => bif (E.P.info? e).isSome && Nat.beq sz (E.P.cellsOf e) then 0 ≤ j ∧ ∃ row, rows[j.toNat]? = some row ∧ K (finP o st (.fptr row 0)) μ else False
    | some (.slice e), .raw (.slice a len _), .raw (.int _ j) => bif (E.P.info? e).isSome then withSl a fun b off => 0 ≤ j ∧ j < len ∧ K (finP o st (pP b (off + j.toNat * E.P.cellsOf e))) μ else False
    | some (.array len e), .box k off, .raw (.int _ j) => bif decide (0 ≤ j) && decide (j < len) && (E.P.info? e).isSome then K (finP o st (.box k (off + j.toNat * E.P.cellsOf e))) μ else False
    | _, _, _ => False
  | .index t x i => match E.P.underlying t, ρ x, ρ i with
    | some .string, .raw (.string s), .raw (.int _ j) => 0 ≤ j ∧ ∃ c : UInt8, s[j.toNat]? = some c ∧ K (finP o st (.raw (.int .u8 c.toNat))) μ
    | some (.array len e), .agg cs, .raw (.int _ j) => bif (E.P.info? e).isSome then 0 ≤ j ∧ j < len ∧ exVP E.P r e fun v => eltP E.P e (j.toNat * E.P.cellsOf e) cs = some v ∧ K (finP o st v) μ else False
    | _, _, _ => False
  | .extract x i => match ρ x with
    | .tup vs => match vs[i]? with
      | some v => bif v.ok then K (finP o st v) μ else False
      | none => False
    | _ => False
  | .call c => match c.callee with
    | .builtin b => V1b E q o st μ b c.args.toList c.argTypes.toList K
    | .value f => bif c.args.toList.all (fun x => (ρ x).ok) then
        CallD E.P q (ρ f) (argsP E.P c.argTypes.toList (c.args.toList.map ρ)) μ fun v μ' => exRP E.P r o.type fun v' => v = v' ∧ K (finP o st v') μ' else False
    | .invoke x name => bif c.args.toList.all (fun x => (ρ x).ok) then match ρ x with
        | .iface t p => match pv E.P (method (E.P.types.size + Made.depth) t undef name) with
          | some (g, _) => (∀ v, pv E.P (method (E.P.types.size + Made.depth) t v name) = some (g, v)) ∧
              CallD E.P q (.fn (.func g) [] []) (wk2 p :: argsP E.P c.argTypes.toList (c.args.toList.map ρ)) μ fun v μ' => exRP E.P r o.type fun v' => v = v' ∧ K (finP o st v') μ'
          | none => False
        | _ => False else False
  | _ => False

def Vl (E : EnvP) (fz : List Nat) (ops : Array Oper) (Q : PSt → Mem → Prop) : List Oper → PSt → Mem → Prop
  | [], st, μ => Q st μ
  | o :: l, st, μ => match o.guard with
    | none => V1 E false fz o st μ fun st' μ' => Vl E fz ops Q l st' μ'
    | some (j, b) => match gslot ops j with
      | none => False
      | some g => match st.σ g with
        | .raw (.bool c) => CIf c
            ((fun st1 => CIf b (V1 E false fz o st1 μ fun st' μ' => Vl E fz ops Q l st' μ') (Vl E fz ops Q l (finP o st1 (.tup [])) μ)) { st with σ := updP st.σ g (pB true) })
            ((fun st1 => CIf b (Vl E fz ops Q l (finP o st1 (.tup [])) μ) (V1 E false fz o st1 μ fun st' μ' => Vl E fz ops Q l st' μ')) { st with σ := updP st.σ g (pB false) })
        | .tup _ => Vl E fz ops Q l (finP o st (.tup [])) μ
        | _ => False

def guardedP (ops : Array Oper) (o : Oper) (st : PSt) (act skip : PSt → Prop) : Prop :=
  match o.guard with
  | none => act st
  | some (j, b) => match gslot ops j with
    | none => False
    | some g => match st.σ g with
      | .raw (.bool c) => CIf c
          ((fun st1 => CIf b (act st1) (skip st1)) { st with σ := updP st.σ g (pB true) })
          ((fun st1 => CIf b (skip st1) (act st1)) { st with σ := updP st.σ g (pB false) })
      | .tup _ => skip st
      | _ => False

/-- An operation that reads what is frozen through a pointer. -/
def frzLoad (st : PSt) (o : Oper) : Bool :=
  match o.op with
  | .load _ x => match evP st.σ x with
    | .fptr .. => true
    | _ => false
  | _ => false

def stepTP (E : EnvP) (fz : List Nat) (ops : Array Oper) (c : Bool) (μ0 : Mem) (i : Nat) (st : PSt) (K : PSt → Prop) : Prop :=
  match ops[i]? with
  | none => False
  | some o => guardedP ops o st (fun st1 => bif c || !frzLoad st1 o then V1 E false fz o st1 μ0 fun st' _ => K st' else False) (fun st1 => K (finP o st1 (.tup [])))

def stepEP (E : EnvP) (fz : List Nat) (ops : Array Oper) (i : Nat) (st : PSt) (μ : Mem) (K : PSt → Mem → Prop) : Prop :=
  match ops[i]? with
  | none => False
  | some o => bif privOp E.priv o then False else guardedP ops o st
      (fun st1 => bif hard ops i then V1 E true (fz ++ st1.D.map (·.1)) o st1 μ K else V1 E false fz o st1 μ K)
      (fun st1 => K (finP o st1 (.tup [])) μ)

def Vd (E : EnvP) (fz : List Nat) (ops : Array Oper) (μ0 : Mem) (Q : PSt → Mem → Prop) : Bool → Plan → PSt → Mem → Prop
  | _, .nil, st, μ => Q st μ
  | c, .tk i p, st, μ => stepTP E fz ops c μ0 i st fun st' => Vd E fz ops μ0 Q c p st' μ
  | _, .ef i p, st, μ => stepEP E fz ops i st μ fun st' μ' => Vd E fz ops μ0 Q false p st' μ'
  | _, .ef2 i p j q, st, μ => (stepEP E fz ops i st μ fun st' μ' => Vd E fz ops μ0 Q false p st' μ') ∧ (stepEP E fz ops j st μ fun st' μ' => Vd E fz ops μ0 Q false q st' μ')
  | _, .ef3 i p j q k r, st, μ => (stepEP E fz ops i st μ fun st' μ' => Vd E fz ops μ0 Q false p st' μ') ∧ (stepEP E fz ops j st μ fun st' μ' => Vd E fz ops μ0 Q false q st' μ') ∧ (stepEP E fz ops k st μ fun st' μ' => Vd E fz ops μ0 Q false r st' μ')

def toJP (c : CutP) (J : TupP c.live → Mem → Prop) (st : PSt) (μ : Mem) : Prop :=
  bif scrapOkP st c.scrap then (match getLiveP st c.live with
    | some s => J s μ
    | none => False) else False

def thenQP (next : PSt → Mem → Prop) (Q : Exit → PSt → Mem → Prop) : Exit → PSt → Mem → Prop
  | .normal, st, μ => next st μ
  | e, st, μ => Q e st μ

def blockQP (id : Nat) (Q : Exit → PSt → Mem → Prop) : Exit → PSt → Mem → Prop
  | .exit i, st, μ => bif Nat.beq i id then Q .normal st μ else Q (.exit i) st μ
  | e, st, μ => Q e st μ

def normQP (K : PSt → Mem → Prop) : Exit → PSt → Mem → Prop
  | .normal, st, μ => K st μ
  | _, _, _ => False

def roundQP (R : Option Code → Mem → Prop) : Exit → PSt → Mem → Prop
  | .normal, _, μ => R none μ
  | .ret, _, μ => R (some .ret) μ
  | .exit i, _, μ => R (some (.exit i)) μ
  | _, _, _ => False

def rndSP (σ : FrP) : FrP := fun t => match σ t with | .box _ _ => .poison | v => v

def setPsP (σ : FrP) : List Nat → List PV → FrP
  | p :: ps, v :: vs => setPsP (updP σ p v) ps vs
  | _, _ => σ

def V (E : EnvP) : List Nat → Code → (Exit → PSt → Mem → Prop) → PSt → Mem → Prop
  | _, .skip, Q, st, μ => Q .normal st μ
  | _, .ret, Q, st, μ => Q .ret st μ
  | _, .exit i, Q, st, μ => Q (.exit i) st μ
  | fz, .region _ ops false, Q, st, μ => Vl E fz ops (Q .normal) ops.toList st μ
  | fz, .region _ ops true, Q, st, μ => bif E.P.follows .mixedOrders then (match mkPlan ops with
    | some p => Vd E fz ops μ (Q .normal) true p st μ
    | none => False) else False
  | fz, .seq a b, Q, st, μ => match (firstR b).bind (look E.joins) with
    | none => V E fz a (thenQP (fun st' μ' => V E fz b Q st' μ') Q) st μ
    | some l => bif liveOk fz st.D l.er then CJoin (fun J => V E (freeze fz st.D l.er) a (thenQP (toJP l J) Q) st μ) (fun s μ' => V E fz b Q (mixP st (writes a) l s) μ') else False
  | fz, .cond c a b, Q, st, μ => match evP st.σ c with
    | .raw (.bool t) => CIf t (V E fz a Q st μ) (V E fz b Q st μ)
    | _ => False
  | fz, .block id a, Q, st, μ => V E fz a (blockQP id Q) st μ
  | fz, .loop a, Q, st, μ => match (firstR a).bind (look E.loops) with
    | none => False
    | some l => bif liveOk fz st.D l.er then toJP l (LoopI fun next s μ' => V E (freeze fz st.D l.er) a (thenQP (toJP l next) Q) (mixP st (writes a) l s) μ') st μ else False
  | _, .rangeFunc f ps assign body, Q, st, μ => match look E.rngs (ps.toList.headD 0) with
    | none => False
    | some ts => bif Nat.beq ts.length ps.toList.length then
        RangeP E.P (evP st.σ f) (fun vs R μ' => exVsP E.P (match ps.toList with | p :: _ => memN E.raws p | [] => false) ts fun vs' => vs = vs' ∧ V E [] assign (normQP fun st1 μ1 => V E [] body (roundQP R) st1 μ1) ⟨setPsP (rndSP st.σ) ps.toList vs', []⟩ μ')
          (fun p μ' => PK p (Q .normal st μ') (bif hasRet body then Q .ret st μ' else False) ((undup (exitsOf body)).map fun i => (i, Q (.exit i) st μ'))) μ
      else False
  | _, _, _, _, _ => False

def argFP (args : List PV) : FrP := fun t => (args[t]?).getD (.tup [])

def resQP (P : Program) (rw : List Nat) (st : PSt) (μ : Mem) : List ResultVar → (List PV → Prop) → Prop
  | [], F => F []
  | .tmp t :: l, F => bif (st.σ t).ok then resQP P rw st μ l fun vs => F (st.σ t :: vs) else False
  | .cell a t :: l, F => match kindsV P (memN rw a) t with
    | none => False
    | some ks => match st.σ a with
      | .box k off => match boxSize st.D k with
        | some m => bif Nat.ble (off + ks.length) m && allCell (rdGP st.σ k off ks.length) then resQP P rw st μ l fun vs => F (mkP (aggT P t) (rdGP st.σ k off ks.length) :: vs) else False
        | none => False
      | v => withPtrP v fun b off => exLV ks fun us => rdM μ b off ks.length = some us ∧ resQP P rw st μ l fun vs => F (mkP (aggT P t) us :: vs)

def tupRP (R : PV → Mem → Prop) (μ : Mem) : List PV → Prop
  | [v] => R v μ
  | vs => R (.tup vs) μ

def retQP (P : Program) (rw : List Nat) (rs : List ResultVar) (R : PV → Mem → Prop) : Exit → PSt → Mem → Prop
  | .ret, st, μ => resQP P rw st μ rs (tupRP R μ)
  | .normal, st, μ => resQP P rw st μ rs (tupRP R μ)
  | _, _, _ => False

/-- What a function asks of its arguments and the memory. -/
def VF (E : EnvP) (c : Code) (rs : List ResultVar) (args : List PV) (μ : Mem) (R : PV → Mem → Prop) : Prop :=
  V E [] c (retQP E.P E.raws rs R) ⟨argFP args, []⟩ μ

end Go.Eng
