import Derived.Test.YtfjemjnbemdkgaaQ08
/-
  Symbols: contracts of package sym, and of the document's own.
-/
namespace Go.Proofs.Ytfjemjnbemdkgaa
open Go.Eng Go.RowKit
set_option linter.unusedVariables false
set_option linter.unusedSimpArgs false
set_option linter.unnecessarySimpa false

@[reducible] def p8 (c : UInt8) : PV := .raw (.int .u8 ((c.toNat : Nat) : Int))

def smallB (c : UInt8) : Bool := decide ((c.toNat : Int) ≥ 97) && decide ((c.toNat : Int) ≤ 122)
def digitB (c : UInt8) : Bool := decide ((c.toNat : Int) ≥ 48) && decide ((c.toNat : Int) ≤ 57)
def greatB (c : UInt8) : Bool := decide ((c.toNat : Int) ≥ 65) && decide ((c.toNat : Int) ≤ 90)
def partB (c : UInt8) : Bool := smallB c || (digitB c || (((c.toNat : Int) == 45) || ((c.toNat : Int) == 95)))

/-- A word. -/
def wordL (l : List UInt8) : Bool := decide (1 ≤ l.length) && (decide (l.length ≤ 32) && ((match l with | c :: _ => smallB c | [] => false) && l.all partB))
def wordB (t : ByteArray) : Bool := wordL (bL t)

def validB (s : Sym) : Bool :=
  bif s.k == 1 then (match bL s.t with | [c] => greatB c && (decide (s.n ≥ 1) && decide (s.n ≤ 1048576)) | _ => false) else
  bif s.k == 2 then strEq s.t ⟨#[]⟩ && (decide (s.n ≥ -2147483647) && decide (s.n ≤ 2147483647)) else
  bif s.k == 3 then (s.n == 0) && wordB s.t else false

theorem cSmall (c : UInt8) : Pure Try.prog 64 [p8 c] (pB (smallB c)) := by
  refine PureK.of (G_sym_small.c ?_)
  refine CIf.mk (fun h => ?_) (fun h => ?_) <;> simp_all [smallB, wk, wk1] <;> omega
theorem cDigit (c : UInt8) : Pure Try.prog 65 [p8 c] (pB (digitB c)) := by
  refine PureK.of (G_sym_digit.c ?_)
  refine CIf.mk (fun h => ?_) (fun h => ?_) <;> simp_all [digitB, wk, wk1] <;> omega
theorem cGreat (c : UInt8) : Pure Try.prog 94 [p8 c] (pB (greatB c)) := by
  refine PureK.of (G_sym_great.c ?_)
  refine CIf.mk (fun h => ?_) (fun h => ?_) <;> simp_all [greatB, wk, wk1] <;> omega
theorem cPart (c : UInt8) : Pure Try.prog 71 [p8 c] (pB (partB c)) := by
  refine PureK.of (G_ponderref04_Part.c ?_)
  repeat' (refine CIf.mk (fun h => ?_) (fun h => ?_))
  all_goals (simp only [wk, wk1, PV.raw.injEq, Value.bool.injEq, partB, smallB, digitB]; grind)

theorem wordL_head {c : UInt8} {l : List UInt8} (h1 : (c :: l).length ≤ 32) (h2 : smallB c = true) : wordL (c :: l) = l.all partB := by
  simp only [wordL, List.length_cons] at *
  have hp : partB c = true := by simp [partB, h2]
  simp [h2, hp]; omega

theorem cWord (t : ByteArray) : Pure Try.prog 38 [pS t] (pB (wordB t)) := by
  refine PureK.of (G_sym_Word.c ?_)
  have hlen := bL_len t
  unfold wordB
  generalize hL : bL t = L at hlen
  refine CIf.mk (fun h => ?_) (fun h => CIf.mk (fun h2 => ?_) (fun h2 => ?_))
  · have : L = [] := List.eq_nil_of_length_eq_zero (by simp at h; omega)
    subst this; rfl
  · have : ¬ L.length ≤ 32 := by simp at h2; omega
    simp [wordL, this, wk, wk1]
  · have h1 : 1 ≤ t.size := by simp at h; omega
    have h3 : L.length ≤ 32 := by simp at h2; omega
    have hat : ∀ k (hk : k < L.length), t[Int.toNat (k : Int)]? = some L[k] := fun k hk => by subst hL; exact byteAt (by omega)
    obtain ⟨c, l, rfl⟩ : ∃ c l, L = c :: l := by
      cases L with
      | nil => simp at hlen; omega
      | cons c l => exact ⟨c, l, rfl⟩
    refine ⟨by omega, c, hat 0 (by simp), (cSmall c).call ⟨_, rfl, CIf.mk (fun h4 => ?_) (fun h4 => ?_)⟩⟩
    · have h4 : smallB c = false := by simpa using h4
      simp [wordL, h4, wk, wk1]
    · have h4 : smallB c = true := by simpa using h4
      rw [wordL_head h3 h4]
      refine LoopI.from (s := 1) (n := t.size) h1 (by omega) (fun k u => (l.take (k - 1)).all partB = true) (by simp) ?_ ?_
      · intro k u next hk1 hk hg hnext
        have hk' : k < (c :: l).length := by omega
        have hkl : k - 1 < l.length := by simp at hk'; omega
        have hck : (c :: l)[k] = l[k - 1] := by
          cases k with
          | zero => omega
          | succ k => simp
        have hx := hat k hk'
        rw [hck] at hx
        have go : partB l[k - 1] = true → ∀ u', next (IntKind.wrap .i64 ((k : Int) + 1)) u' := fun hp u' => hnext u' (by
          have : k + 1 - 1 = k - 1 + 1 := by omega
          rw [this, allTake hkl hg]; exact hp)
        have stop : partB l[k - 1] = false → wk (pB false) = pB (l.all partB) := fun hp => by rw [allMiss hkl hp]; rfl
        refine CIf.t (by simpa using hk) ⟨by omega, _, hx, (cSmall _).call ⟨_, rfl, CIf.mk (fun a1 => ?_) (fun a1 => go ?_ _)⟩⟩
        · refine ⟨by omega, _, hx, (cDigit _).call ⟨_, rfl, CIf.mk (fun a2 => ?_) (fun a2 => go ?_ _)⟩⟩
          · refine ⟨by omega, _, hx, CIf.mk (fun a3 => ⟨by omega, _, hx, CIf.mk (fun a4 => stop ?_) (fun a4 => go ?_ _)⟩) (fun a3 => go ?_ _)⟩ <;> simp_all [partB]
          · simp_all [partB]
        · simp_all [partB]
      · intro u next hg
        refine CIf.f (by simp) ?_
        have : t.size - 1 = l.length := by simp at hlen; omega
        rw [this, List.take_length] at hg
        rw [hg]; rfl

theorem cRefWord (t : ByteArray) : Pure Try.prog 44 [pS t] (pB (wordB t)) := by
  refine PureK.of (G_ponderref04_Word.c ?_)
  have hlen := bL_len t
  unfold wordB
  generalize hL : bL t = L at hlen
  refine CIf.mk (fun h => ?_) (fun h => CIf.mk (fun h2 => ?_) (fun h2 => ?_))
  · have : L = [] := List.eq_nil_of_length_eq_zero (by simp at h; omega)
    subst this; rfl
  · have : ¬ L.length ≤ 32 := by simp at h2; omega
    simp [wordL, this, wk, wk1]
  · have h1 : 1 ≤ t.size := by simp at h; omega
    have h3 : L.length ≤ 32 := by simp at h2; omega
    have hat : ∀ k (hk : k < L.length), t[Int.toNat (k : Int)]? = some L[k] := fun k hk => by subst hL; exact byteAt (by omega)
    obtain ⟨c, l, rfl⟩ : ∃ c l, L = c :: l := by
      cases L with
      | nil => simp at hlen; omega
      | cons c l => exact ⟨c, l, rfl⟩
    refine ⟨by omega, c, hat 0 (by simp), CIf.mk (fun h4 => ?_) (fun h4 => ⟨by omega, c, hat 0 (by simp), CIf.mk (fun h5 => ?_) (fun h5 => ?_)⟩)⟩
    · have : smallB c = false := by simp at h4; simp [smallB]; omega
      simp [wordL, this, wk, wk1]
    · have : smallB c = false := by simp at h5; simp [smallB]; omega
      simp [wordL, this, wk, wk1]
    · have hs : smallB c = true := by simp at h4 h5; simp [smallB]; omega
      have hw : wordL (c :: l) = (c :: l).all partB := by
        simp only [List.length_cons] at h3
        simp [wordL, hs]; omega
      rw [hw]
      refine LoopI.each (n := t.size) (by omega) (fun k u => ((c :: l).take k).all partB = true) (by simp) ?_ ?_
      · intro k u next hk hg hnext
        have hk' : k < (c :: l).length := by omega
        refine CIf.t (by simpa using hk) ⟨by omega, _, hat k hk', (cPart _).call ⟨_, rfl, CIf.mk (fun a1 => ?_) (fun a1 => hnext _ ?_)⟩⟩
        · rw [allMiss hk' (by simpa using a1)]; rfl
        · rw [allTake hk' hg]; simpa using a1
      · intro u next hg
        refine CIf.f (by simp) ?_
        rw [← hlen, List.take_length] at hg
        rw [hg]; rfl

theorem oneByte {t : ByteArray} : ((((t.size : Nat) : Int) == 1) = true ↔ ∃ c, bL t = [c]) := by
  have hlen := bL_len t
  constructor
  · intro h
    have h1 : (bL t).length = 1 := by simp at h; omega
    exact List.length_eq_one_iff.1 h1
  · rintro ⟨c, hc⟩
    rw [hc] at hlen
    simp at hlen ⊢; omega

theorem cValid (s : Sym) : Pure Try.prog 83 [.agg s.pv] (pB (validB s)) := by
  refine PureK.of (G_sym_Valid.c ?_)
  refine CIf.mk (fun h => ?_) (fun h => CIf.mk (fun h2 => ?_) (fun h2 => CIf.mk (fun h3 => ?_) (fun h3 => ?_)))
  · refine CIf.mk (fun a => ?_) (fun a => ?_)
    · obtain ⟨c, hc⟩ := oneByte.1 a
      have hat : s.t[Int.toNat 0]? = some c := by
        have := byteAt (t := s.t) (k := 0) (by have := bL_len s.t; rw [hc] at this; simp at this; omega)
        simpa [hc] using this
      refine ⟨by omega, c, hat, (cGreat c).call ⟨_, rfl, CIf.mk (fun b => CIf.mk (fun d => ?_) (fun d => ?_)) (fun b => ?_)⟩⟩ <;> simp_all [validB, wk, wk1] <;> omega
    · have : ∀ c, bL s.t ≠ [c] := fun c hc => by rw [oneByte.2 ⟨c, hc⟩] at a; cases a
      have hv : validB s = false := by
        simp only [validB, h, cond_true]
        all_goals (split <;> first | rfl | (rename_i c hc; exact absurd hc (this c)))
      rw [hv]; rfl
  · refine CIf.mk (fun a => CIf.mk (fun b => ?_) (fun b => ?_)) (fun a => ?_) <;> simp_all [validB, wk, wk1] <;> omega
  · refine CIf.mk (fun a => (cWord s.t).call ⟨_, rfl, ?_⟩) (fun a => ?_) <;> simp_all [validB, wk, wk1] <;> omega
  · simp_all [validB, wk, wk1]

theorem cRefValid (s : Sym) : Pure Try.prog 96 [.agg s.pv] (pB (validB s)) := by
  refine PureK.of (G_ponderref04_Valid.c ?_)
  refine CIf.mk (fun h => ?_) (fun h => CIf.mk (fun h2 => ?_) (fun h2 => CIf.mk (fun h3 => ?_) (fun h3 => ?_)))
  · refine CIf.mk (fun a => ?_) (fun a => ?_)
    · obtain ⟨c, hc⟩ := oneByte.1 a
      have hat : s.t[Int.toNat 0]? = some c := by
        have := byteAt (t := s.t) (k := 0) (by have := bL_len s.t; rw [hc] at this; simp at this; omega)
        simpa [hc] using this
      refine ⟨by omega, c, hat, CIf.mk (fun b => ⟨by omega, c, hat, CIf.mk (fun b2 => CIf.mk (fun d => ?_) (fun d => ?_)) (fun b2 => ?_)⟩) (fun b => ?_)⟩ <;> simp_all [validB, greatB, wk, wk1] <;> omega
    · have : ∀ c, bL s.t ≠ [c] := fun c hc => by rw [oneByte.2 ⟨c, hc⟩] at a; cases a
      have hv : validB s = false := by
        simp only [validB, h, cond_true]
        all_goals (split <;> first | rfl | (rename_i c hc; exact absurd hc (this c)))
      rw [hv]; rfl
  · refine CIf.mk (fun a => CIf.mk (fun b => ?_) (fun b => ?_)) (fun a => ?_) <;> simp_all [validB, wk, wk1] <;> omega
  · refine CIf.mk (fun a => (cRefWord s.t).call ⟨_, rfl, ?_⟩) (fun a => ?_) <;> simp_all [validB, wk, wk1] <;> omega
  · simp_all [validB, wk, wk1]

/-- A right constant. -/
def constB (s : Sym) : Bool := (s.k != 1) && validB s

theorem cRefConst (s : Sym) : Pure Try.prog 88 [.agg s.pv] (pB (constB s)) := by
  refine PureK.of (G_ponderref04_Const.c ?_)
  refine (cRefValid s).call ⟨_, rfl, CIf.mk (fun a => ?_) (fun a => ?_)⟩ <;> simp_all [constB, wk, wk1]

end Go.Proofs.Ytfjemjnbemdkgaa

/-
  Conditions: how many, in which order, light ones. Plain.
-/
namespace Go.Proofs.Ytfjemjnbemdkgaa
open Go.Eng Go.RowKit
set_option linter.unusedVariables false
set_option linter.unusedSimpArgs false
set_option linter.unnecessarySimpa false

mutual
def sizeC : Cond → Nat
  | .mk _ _ _ _ _ _ cs => 1 + sizeL cs
def sizeL : List Cond → Nat
  | [] => 0
  | c :: cs => sizeC c + sizeL cs
end

theorem sizeC_eq (c : Cond) : sizeC c = 1 + sizeL c.conds := by cases c; rfl
theorem sizeL_append (a b : List Cond) : sizeL (a ++ b) = sizeL a + sizeL b := by
  induction a with
  | nil => simp [sizeL]
  | cons c a ih => simp only [List.cons_append, sizeL, ih]; omega
theorem sizeL_take {l : List Cond} {k : Nat} (hk : k < l.length) : sizeL (l.take (k + 1)) = sizeL (l.take k) + (1 + sizeL l[k].conds) := by
  rw [List.take_add_one, sizeL_append, List.getElem?_eq_getElem hk]; simp [sizeL, sizeC_eq]
theorem sizeL_split (l : List Cond) (k : Nat) : sizeL l = sizeL (l.take k) + sizeL (l.drop k) := by rw [← sizeL_append, List.take_append_drop]
theorem sizeL_mem {l : List Cond} {c : Cond} (h : c ∈ l) : 1 + sizeL c.conds ≤ sizeL l := by
  induction l with
  | nil => cases h
  | cons d l ih =>
    simp only [sizeL]
    rcases List.mem_cons.1 h with rfl | h
    · rw [sizeC_eq]; omega
    · have := ih h; omega
theorem sizeL_len (l : List Cond) : l.length ≤ sizeL l := by
  induction l with
  | nil => simp
  | cons c l ih => simp only [List.length_cons, sizeL, sizeC_eq]; omega

mutual
/-- Each condition ahead of its inner ones, with its count and how deep it lies. -/
def preC : Cond → Nat → Nat → List (Nat × Nat × Cond)
  | .mk k g i a v ac cs, at_, deep => (at_, deep, .mk k g i a v ac cs) :: preL cs (at_ + 1) (deep + 1)
def preL : List Cond → Nat → Nat → List (Nat × Nat × Cond)
  | [], _, _ => []
  | c :: cs, at_, deep => preC c at_ deep ++ preL cs (at_ + sizeC c) deep
end

theorem preC_eq (c : Cond) (at_ deep : Nat) : preC c at_ deep = (at_, deep, c) :: preL c.conds (at_ + 1) (deep + 1) := by cases c; rfl

theorem preL_append : ∀ (a b : List Cond) (at_ deep : Nat), preL (a ++ b) at_ deep = preL a at_ deep ++ preL b (at_ + sizeL a) deep
  | [], b, at_, deep => by simp [preL, sizeL]
  | c :: a, b, at_, deep => by
    simp only [List.cons_append, preL, preL_append a b, sizeL, List.append_assoc]
    congr 3; omega

mutual
theorem preC_len : ∀ (c : Cond) (at_ deep : Nat), (preC c at_ deep).length = sizeC c
  | .mk k g i a v ac cs, at_, deep => by simp only [preC, List.length_cons, sizeC, preL_len cs]; omega
theorem preL_len : ∀ (l : List Cond) (at_ deep : Nat), (preL l at_ deep).length = sizeL l
  | [], _, _ => rfl
  | c :: cs, at_, deep => by simp only [preL, List.length_append, preC_len c, preL_len cs, sizeL]
end

theorem nb {b : Bool} (h : (!b) = true) : b = false := by simpa using h
theorem nt {b : Bool} (h : (!b) = false) : b = true := by simpa using h

theorem preL_take {l : List Cond} {k : Nat} (hk : k < l.length) (a d : Nat) : preL (l.take (k + 1)) a d = preL (l.take k) a d ++ ((a + sizeL (l.take k), d, l[k]) :: preL l[k].conds (a + sizeL (l.take k) + 1) (d + 1)) := by
  rw [List.take_add_one, preL_append, List.getElem?_eq_getElem hk]
  simp [preL, preC_eq]

theorem preL_at {l : List Cond} {k : Nat} (hk : k < l.length) (a d : Nat) : preL l a d = preL (l.take k) a d ++ ((a + sizeL (l.take k), d, l[k]) :: preL l[k].conds (a + sizeL (l.take k) + 1) (d + 1)) ++ preL (l.drop (k + 1)) (a + sizeL (l.take (k + 1))) d := by
  rw [← preL_take hk, ← preL_append, List.take_append_drop]

mutual
theorem preC_count : ∀ (c : Cond) (a d k : Nat) (x : Nat × Nat × Cond), (preC c a d)[k]? = some x → x.1 = a + k
  | .mk kk g i at' v ac cs, a, d, k, x, h => by
    simp only [preC] at h
    cases k with
    | zero => simp only [List.getElem?_cons_zero, Option.some.injEq] at h; subst h; rfl
    | succ k =>
      simp only [List.getElem?_cons_succ] at h
      have := preL_count cs (a + 1) (d + 1) k x h; omega
theorem preL_count : ∀ (l : List Cond) (a d k : Nat) (x : Nat × Nat × Cond), (preL l a d)[k]? = some x → x.1 = a + k
  | [], a, d, k, x, h => by simp [preL] at h
  | c :: cs, a, d, k, x, h => by
    simp only [preL] at h
    by_cases hk : k < (preC c a d).length
    · rw [List.getElem?_append_left hk] at h; exact preC_count c a d k x h
    · rw [List.getElem?_append_right (by omega)] at h
      have := preL_count cs (a + sizeC c) d _ x h
      rw [preC_len] at this hk
      omega
end

/-! ### light ones -/
def lightT (t : Test) : Prop := t.list.length ≤ 20 ∧ t.var.size ≤ 100 ∧ t.sym.t.size ≤ 100

mutual
def lightC : Cond → Prop
  | .mk _ _ i a v _ cs => i.size ≤ 100 ∧ a.length ≤ 10 ∧ v.length ≤ 10 ∧ (∀ t ∈ a, lightT t) ∧ (∀ t ∈ v, lightT t) ∧ lightL cs
def lightL : List Cond → Prop
  | [] => True
  | c :: cs => lightC c ∧ lightL cs
end

theorem lightC_eq (c : Cond) : lightC c ↔ c.id.size ≤ 100 ∧ c.attr.length ≤ 10 ∧ c.value.length ≤ 10 ∧ (∀ t ∈ c.attr, lightT t) ∧ (∀ t ∈ c.value, lightT t) ∧ lightL c.conds := by cases c; rfl

theorem lightL_iff {l : List Cond} : lightL l ↔ ∀ c ∈ l, lightC c := by
  induction l with
  | nil => simp [lightL]
  | cons c l ih => simp [lightL, ih]

mutual
theorem lightC_pre : ∀ (c : Cond) (a d : Nat) (x : Nat × Nat × Cond), lightC c → x ∈ preC c a d → lightC x.2.2
  | .mk k g i at' v ac cs, a, d, x, h, hx => by
    simp only [preC, List.mem_cons] at hx
    rcases hx with rfl | hx
    · exact h
    · exact lightL_pre cs _ _ x ((lightC_eq _).1 h).2.2.2.2.2 hx
theorem lightL_pre : ∀ (l : List Cond) (a d : Nat) (x : Nat × Nat × Cond), lightL l → x ∈ preL l a d → lightC x.2.2
  | [], a, d, x, _, hx => by simp [preL] at hx
  | c :: cs, a, d, x, h, hx => by
    simp only [preL, List.mem_append] at hx
    rcases hx with hx | hx
    · exact lightC_pre c a d x h.1 hx
    · exact lightL_pre cs _ d x h.2 hx
end

theorem lightTs {l : List Test} (h : ∀ t ∈ l, lightT t) : ∀ t ∈ l, t.list.length ≤ 1000000 := fun t ht => Nat.le_trans (h t ht).1 (by omega)

end Go.Proofs.Ytfjemjnbemdkgaa

/-
  Productions that may be: plain definitions.
-/
namespace Go.Proofs.Ytfjemjnbemdkgaa
open Go.Eng Go.RowKit

def noneB (s : Sym) : Bool := (s.k == 0) && (strEq s.t ⟨#[]⟩ && ((s.n == 0) && true))
def emptyB (a : Atom) : Bool := strEq a.var ⟨#[]⟩ && noneB a.sym
def atomB (a : Atom) : Bool := bif strEq a.var ⟨#[]⟩ then constB a.sym else wordB a.var && noneB a.sym
def testB (t : Test) : Bool :=
  bif t.rel == 8 then strEq t.var ⟨#[]⟩ && (noneB t.sym && (decide (1 ≤ t.list.length) && (decide (t.list.length ≤ 8) && t.list.all constB)))
  else decide (1 ≤ t.rel) && (decide (t.rel ≤ 7) && (decide (t.list.length = 0) && atomB ⟨t.var, t.sym⟩))
def wordA (a : Atom) : Bool := strEq a.var ⟨#[]⟩ && (a.sym.k == 3)
def termB (t : Term) : Bool := decide (0 ≤ t.op) && (decide (t.op ≤ 3) && (atomB t.a && (bif t.op == 0 then emptyB t.b else atomB t.b && (!wordA t.a && !wordA t.b))))
def otherB (k : Int) : Bool := (k == 8) || ((k == 9) || (k == 10))
def actB (a : Actn) : Bool := wordB a.id && (atomB a.attr && (termB a.value && (decide (1 ≤ a.pref) && (decide (a.pref ≤ 10) && (bif otherB a.pref then atomB a.other else emptyB a.other)))))

/-- A condition's error, within so many Alls. -/
def condE (c : Cond) (deep : Int) : Int :=
  bif c.kind == 3 then
    (bif c.goal || (!strEq c.id ⟨#[]⟩ || (decide (0 < c.attr.length) || (decide (0 < c.value.length) || (c.acc || decide (c.conds.length = 0))))) then 9 else bif decide (3 ≤ deep) then 8 else 0)
  else bif (c.kind == 1) || (c.kind == 2) then
    (bif decide (0 < c.conds.length) || (!wordB c.id || decide (c.attr.length = 0)) then 9 else
     bif decide (4 < c.attr.length) || decide (4 < c.value.length) then 7 else
     bif !(c.attr.all testB) || !(c.value.all testB) then 9 else 0)
  else 9

/-- The first that is wrong. -/
def firstE : List (Nat × Nat × Cond) → Option (Nat × Int)
  | [] => none
  | (a, d, c) :: l => bif condE c d == 0 then firstE l else some (a, condE c d)

theorem firstE_append (a b : List (Nat × Nat × Cond)) : firstE (a ++ b) = (firstE a).or (firstE b) := by
  induction a with
  | nil => rfl
  | cons x a ih =>
    obtain ⟨p, d, c⟩ := x
    simp only [List.cons_append, firstE]
    cases condE c d == 0
    · rfl
    · exact ih

/-- The first action that is wrong. -/
def firstA : Nat → List Actn → Option Nat
  | _, [] => none
  | i, a :: l => bif actB a then firstA (i + 1) l else some i

theorem firstA_take {l : List Actn} {k i : Nat} (hk : k < l.length) (h : firstA i (l.take k) = none) : firstA i (l.take (k + 1)) = (bif actB l[k] then none else some (i + k)) := by
  induction l generalizing k i with
  | nil => simp at hk
  | cons a l ih =>
    cases k with
    | zero => simp [firstA]
    | succ k =>
      simp only [List.take_succ_cons, firstA, List.getElem_cons_succ] at h ⊢
      cases ha : actB a with
      | false => rw [ha] at h; cases h
      | true =>
        rw [ha] at h
        simp only [cond_true] at h ⊢
        rw [ih (by simpa using hk) h]
        congr 2; omega

theorem firstA_hit {l : List Actn} {k i : Nat} (hk : k < l.length) (h : firstA i (l.take k) = none) (ha : actB l[k] = false) : firstA i l = some (i + k) := by
  induction l generalizing k i with
  | nil => simp at hk
  | cons a l ih =>
    cases k with
    | zero => simp only [List.getElem_cons_zero] at ha; simp [firstA, ha]
    | succ k =>
      simp only [List.take_succ_cons, firstA, List.getElem_cons_succ] at h ha ⊢
      cases hb : actB a with
      | false => rw [hb] at h; cases h
      | true =>
        rw [hb] at h
        simp only [cond_true] at h ⊢
        rw [ih (by simpa using hk) h ha]
        congr 1; omega

def shapeT (p : Prod) : Int × Int :=
  match firstE (preL p.conds 0 0) with
  | some (a, e) => (a, e)
  | none => match firstA 0 p.acts with
    | some i => (((sizeL p.conds + i : Nat) : Int), 9)
    | none => (-1, 0)

/-- The place and the first error of a production's form. -/
def shapeE (p : Prod) : Int × Int :=
  bif !wordB p.name then (-1, 2) else
  bif decide (sizeL p.conds < 1) || (decide (16 < sizeL p.conds) || (decide (p.acts.length < 1) || decide (16 < p.acts.length))) then (-1, 7) else shapeT p

theorem shapeT_e {p : Prod} {a : Nat} {e : Int} (h : firstE (preL p.conds 0 0) = some (a, e)) : shapeT p = ((a : Int), e) := by simp only [shapeT, h]
theorem shapeT_a {p : Prod} {i : Nat} (h : firstE (preL p.conds 0 0) = none) (h2 : firstA 0 p.acts = some i) : shapeT p = (((sizeL p.conds + i : Nat) : Int), 9) := by simp only [shapeT, h, h2]
theorem shapeT_ok {p : Prod} (h : firstE (preL p.conds 0 0) = none) (h2 : firstA 0 p.acts = none) : shapeT p = (-1, 0) := by simp only [shapeT, h, h2]

theorem firstE_ne {l : List (Nat × Nat × Cond)} {a : Nat} {e : Int} (h : firstE l = some (a, e)) : e ≠ 0 := by
  induction l with
  | nil => cases h
  | cons x l ih =>
    obtain ⟨p, d, c⟩ := x
    simp only [firstE] at h
    cases hc : condE c d == 0 with
    | true => rw [hc] at h; exact ih h
    | false =>
      rw [hc] at h
      simp only [cond_false, Option.some.injEq, Prod.mk.injEq] at h
      rw [← h.2]; simpa using hc

theorem firstE_take {l : List (Nat × Nat × Cond)} {k : Nat} {x : Nat × Nat × Cond} (hx : l[k]? = some x) (h : firstE (l.take k) = none) : firstE (l.take (k + 1)) = (bif condE x.2.2 x.2.1 == 0 then none else some (x.1, condE x.2.2 x.2.1)) := by
  rw [List.take_add_one, firstE_append, h, hx]
  obtain ⟨a, d, c⟩ := x
  simp [firstE]

theorem firstE_stop {l : List (Nat × Nat × Cond)} {k : Nat} {r : Nat × Int} (h : firstE (l.take k) = some r) : firstE l = some r := by
  have := firstE_append (l.take k) (l.drop k)
  rw [List.take_append_drop, h] at this
  exact this

end Go.Proofs.Ytfjemjnbemdkgaa

/-
  Productions that may be: contracts of the small functions.
-/
namespace Go.Proofs.Ytfjemjnbemdkgaa
open Go.Eng Go.RowKit
set_option linter.unusedVariables false
set_option linter.unusedSimpArgs false
set_option linter.unnecessarySimpa false

theorem cNone (s : Sym) : Pure Try.prog 85 [.agg s.pv] (pB (noneB s)) := PureK.of (G_shape_none.c rfl)

theorem cEmpty (a : Atom) : Pure Try.prog 70 [.agg a.pv] (pB (emptyB a)) := by
  refine PureK.of (G_shape_empty.c ?_)
  refine CIf.mk (fun h => (cNone a.sym).call ⟨_, rfl, ?_⟩) (fun h => ?_) <;> simp_all [emptyB, wk, wk1]

theorem cConst (s : Sym) : Pure Try.prog 60 [.agg s.pv] (pB (constB s)) := by
  refine PureK.of (G_shape_constant.c ?_)
  refine CIf.mk (fun h => (cValid s).call ⟨_, rfl, ?_⟩) (fun h => ?_) <;> simp_all [constB, wk, wk1]

theorem cAtom (a : Atom) : Pure Try.prog 67 [.agg a.pv] (pB (atomB a)) := by
  refine PureK.of (G_shape_atom.c ?_)
  refine CIf.mk (fun h => (cWord a.var).call ⟨_, rfl, CIf.mk (fun h2 => (cNone a.sym).call ⟨_, rfl, ?_⟩) (fun h2 => ?_)⟩) (fun h => (cConst a.sym).call ⟨_, rfl, ?_⟩) <;> simp_all [atomB, noneB, wk, wk1]

theorem cRefAtom (a : Atom) : Pure Try.prog 73 [.agg a.pv] (pB (atomB a)) := by
  refine PureK.of (G_ponderref06_atom.c ?_)
  refine CIf.mk (fun h => (cRefWord a.var).call ⟨_, rfl, CIf.mk (fun h2 => ?_) (fun h2 => ?_)⟩) (fun h => (cRefConst a.sym).call ⟨_, rfl, ?_⟩) <;> simp_all [atomB, noneB, wk, wk1]

/-- All of a list, asked one by one. -/
theorem allLoop {T : Type} {f : FuncId} {p : T → Bool} {l : List T} {n : Nat} {body : (Int → Mem → Prop) → Int → Mem → Prop} {u : Mem} (hl : l.length = n) (hn : n < 9223372036854775808) (hno : l.all p = false → ∀ u next, False → body next 0 u)
    (hin : ∀ (k : Nat) (hk : k < l.length) (u : Mem) (next : Int → Mem → Prop), (p l[k] = true → ∀ u', next (IntKind.wrap .i64 ((k : Int) + 1)) u') → (p l[k] = false → l.all p = false) → body next (k : Int) u) (hout : ∀ (u : Mem) (next : Int → Mem → Prop), l.all p = true → body next (n : Int) u) : LoopI body 0 u := by
  refine LoopI.each (n := n) hn (fun k u => (l.take k).all p = true) (by simp) ?_ ?_
  · intro k u next hk hg hnext
    have hk' : k < l.length := by omega
    exact hin k hk' u next (fun hp u' => hnext u' (by rw [allTake hk' hg]; exact hp)) (fun hp => allMiss hk' hp)
  · intro u next hg
    rw [← hl, List.take_length] at hg
    exact hout u next hg

theorem cTest (fl : Fl) (t : Test) (ht : t.list.length ≤ 1000000) : Pure Try.prog 84 [.agg [pI t.rel, pS t.var, pI t.sym.k, pS t.sym.t, pI t.sym.n, .list 3 fl (t.list.map Sym.pv)]] (pB (testB t)) := by
  refine PureK.of (G_shape_test.c ?_)
  refine CIf.mk (fun h8 => ?_) (fun h8 => ?_)
  · refine CIf.mk (fun h1 => ?_) (fun h1 => (cNone t.sym).call ⟨_, rfl, CIf.mk (fun h2 => ?_) (fun h2 => CIf.mk (fun h3 => ?_) (fun h3 => CIf.mk (fun h4 => ?_) (fun h4 => ?_)))⟩)
    · simp [testB, h8, nb h1, wk, wk1]
    · simp [testB, h8, nb h2, wk, wk1]
    · have : ¬ 1 ≤ t.list.length := by simp at h3; omega
      simp [testB, h8, this, wk, wk1]
    · have : ¬ t.list.length ≤ 8 := by simp at h4; omega
      simp [testB, h8, this, wk, wk1]
    · have e3 : 1 ≤ t.list.length := by simp at h3; omega
      have e4 : t.list.length ≤ 8 := by simp at h4; omega
      have hb : testB t = t.list.all constB := by simp [testB, h8, nt h1, nt h2, e3, e4]
      rw [hb]
      refine allLoop (p := constB) (l := t.list) (f := 0) rfl (by omega) (fun _ _ _ h => h.elim) (fun k hk u next hy hno => ?_) (fun u next ha => CIf.f (by simp) (by rw [ha]; rfl))
      refine CIf.t (by simpa using hk) ⟨by omega, _, atRow hk, _, _, _, rfl, (cConst t.list[k]).call ⟨_, rfl, CIf.mk (fun a => ?_) (fun a => hy (by simpa using a) _)⟩⟩
      rw [hno (by simpa using a)]; rfl
  · refine CIf.mk (fun h1 => ?_) (fun h1 => CIf.mk (fun h2 => ?_) (fun h2 => CIf.mk (fun h3 => ?_) (fun h3 => ?_)))
    · have : ¬ 1 ≤ t.rel := by simp at h1; omega
      simp [testB, h8, this, wk, wk1]
    · have : ¬ t.rel ≤ 7 := by simp at h2; omega
      simp [testB, h8, this, wk, wk1]
    · have : ¬ t.list.length = 0 := by simp at h3; omega
      simp [testB, h8, this, wk, wk1]
    · have e1 : 1 ≤ t.rel := by simp at h1; omega
      have e2 : t.rel ≤ 7 := by simp at h2; omega
      have e3 : t.list.length = 0 := by simpa using h3
      have hb : testB t = atomB ⟨t.var, t.sym⟩ := by simp [testB, h8, e1, e2, e3]
      rw [hb]
      refine CIf.mk (fun h => (cWord t.var).call ⟨_, rfl, CIf.mk (fun h2 => (cNone t.sym).call ⟨_, rfl, ?_⟩) (fun h2 => ?_)⟩) (fun h => (cConst t.sym).call ⟨_, rfl, ?_⟩) <;> simp_all [atomB, noneB, wk, wk1]

theorem cRefTest (fl : Fl) (t : Test) (ht : t.list.length ≤ 1000000) : Pure Try.prog 95 [.agg [pI t.rel, pS t.var, pI t.sym.k, pS t.sym.t, pI t.sym.n, .list 3 fl (t.list.map Sym.pv)]] (pB (testB t)) := by
  refine PureK.of (G_ponderref06_test.c ?_)
  refine CIf.mk (fun h8 => ?_) (fun h8 => ?_)
  · refine CIf.mk (fun h1 => ?_) (fun h1 => CIf.mk (fun h2 => ?_) (fun h2 => CIf.mk (fun h3 => ?_) (fun h3 => CIf.mk (fun h4 => ?_) (fun h4 => ?_))))
    · simp_all [testB, wk, wk1]
    · have : noneB t.sym = false := nb h2
      simp [testB, h8, this, wk, wk1]
    · have : ¬ 1 ≤ t.list.length := by simp at h3; omega
      simp [testB, h8, this, wk, wk1]
    · have : ¬ t.list.length ≤ 8 := by simp at h4; omega
      simp [testB, h8, this, wk, wk1]
    · have e2 : noneB t.sym = true := nt h2
      have e3 : 1 ≤ t.list.length := by simp at h3; omega
      have e4 : t.list.length ≤ 8 := by simp at h4; omega
      have e1 : strEq t.var ⟨#[]⟩ = true := by simpa using h1
      have hb : testB t = t.list.all constB := by simp [testB, h8, e1, e2, e3, e4]
      rw [hb]
      refine allLoop (p := constB) (l := t.list) (f := 0) rfl (by omega) (fun _ _ _ h => h.elim) (fun k hk u next hy hno => ?_) (fun u next ha => CIf.f (by simp) (by rw [ha]; rfl))
      refine CIf.t (by simpa using hk) ⟨by omega, _, atRow hk, _, _, _, rfl, (cRefConst t.list[k]).call ⟨_, rfl, CIf.mk (fun a => ?_) (fun a => hy (by simpa using a) _)⟩⟩
      rw [hno (by simpa using a)]; rfl
  · refine CIf.mk (fun h1 => CIf.mk (fun h2 => CIf.mk (fun h3 => (cRefAtom ⟨t.var, t.sym⟩).call ⟨_, rfl, ?_⟩) (fun h3 => ?_)) (fun h2 => ?_)) (fun h1 => ?_)
    · have e3 : t.list.length = 0 := by simpa using h3
      have e1 : 1 ≤ t.rel := by simpa using h1
      have e2 : t.rel ≤ 7 := by simpa using h2
      simp [testB, h8, e1, e2, e3, wk, wk1]
    · have e3 : ¬ t.list.length = 0 := by simpa using h3
      simp [testB, h8, e3, wk, wk1]
    · have e2 : ¬ t.rel ≤ 7 := by simpa using h2
      simp [testB, h8, e2, wk, wk1]
    · have e1 : ¬ 1 ≤ t.rel := by simpa using h1
      simp [testB, h8, e1, wk, wk1]

theorem cTests (fl : Fl) (l : List Test) (hl : l.length ≤ 1000000) (ht : ∀ t ∈ l, t.list.length ≤ 1000000) : Pure Try.prog 66 [.list 6 fl (l.map Test.pv)] (pB (l.all testB)) := by
  refine PureK.of (G_shape_tests.c ?_)
  refine allLoop (p := testB) (l := l) (f := 0) rfl (by omega) (fun _ _ _ h => h.elim) (fun k hk u next hy hno => ?_) (fun u next ha => CIf.f (by simp) (by rw [ha]; rfl))
  refine CIf.t (by simpa using hk) ⟨by omega, _, atRow hk, _, _, _, _, _, _, _, rfl, (cTest .sh l[k] (ht _ (List.getElem_mem hk))).call ⟨_, rfl, CIf.mk (fun a => ?_) (fun a => hy (by simpa using a) _)⟩⟩
  rw [hno (by simpa using a)]; rfl

theorem cRefTests (fl : Fl) (l : List Test) (hl : l.length ≤ 1000000) (ht : ∀ t ∈ l, t.list.length ≤ 1000000) : Pure Try.prog 87 [.list 6 fl (l.map Test.pv)] (pB (l.all testB)) := by
  refine PureK.of (G_ponderref06_tests.c ?_)
  refine allLoop (p := testB) (l := l) (f := 0) rfl (by omega) (fun _ _ _ h => h.elim) (fun k hk u next hy hno => ?_) (fun u next ha => CIf.f (by simp) (by rw [ha]; rfl))
  refine CIf.t (by simpa using hk) ⟨by omega, _, atRow hk, _, _, _, _, _, _, _, rfl, (cRefTest .sh l[k] (ht _ (List.getElem_mem hk))).call ⟨_, rfl, CIf.mk (fun a => ?_) (fun a => hy (by simpa using a) _)⟩⟩
  rw [hno (by simpa using a)]; rfl

theorem cWordA (a : Atom) : Pure Try.prog 86 [.agg a.pv] (pB (wordA a)) := by
  refine PureK.of (G_shape_word.c ?_)
  refine CIf.mk (fun h => ?_) (fun h => ?_) <;> simp_all [wordA, wk, wk1]

theorem cOther (k : Int) : Pure Try.prog 69 [pI k] (pB (otherB k)) := by
  refine PureK.of (G_shape_other.c ?_)
  refine CIf.mk (fun h => ?_) (fun h => CIf.mk (fun h2 => ?_) (fun h2 => ?_)) <;> simp [otherB, wk, wk1, *]

theorem cTerm (t : Term) : Pure Try.prog 68 [.agg t.pv] (pB (termB t)) := by
  refine PureK.of (G_shape_term.c ?_)
  refine CIf.mk (fun h => ?_) (fun h => CIf.mk (fun h2 => ?_) (fun h2 => (cAtom t.a).call ⟨_, rfl, CIf.mk (fun h3 => ?_) (fun h3 => CIf.mk (fun h4 => (cEmpty t.b).call ⟨_, rfl, ?_⟩)
    (fun h4 => (cAtom t.b).call ⟨_, rfl, CIf.mk (fun h5 => (cWordA t.a).call ⟨_, rfl, CIf.mk (fun h6 => (cWordA t.b).call ⟨_, rfl, ?_⟩) (fun h6 => ?_)⟩) (fun h5 => ?_)⟩))⟩))
  · have : ¬ 0 ≤ t.op := by simp at h; omega
    simp [termB, this, wk, wk1]
  · have : ¬ t.op ≤ 3 := by simp at h2; omega
    simp [termB, this, wk, wk1]
  all_goals
    have e1 : 0 ≤ t.op := by simp at h; omega
    have e2 : t.op ≤ 3 := by simp at h2; omega
    grind [termB, wk, wk1]

theorem cAct (a : Actn) : Pure Try.prog 43 [.agg a.pv] (pB (actB a)) := by
  refine PureK.of (G_shape_act.c ?_)
  refine (cWord a.id).call ⟨_, rfl, CIf.mk (fun h1 => ?_) (fun h1 => (cAtom a.attr).call ⟨_, rfl, CIf.mk (fun h2 => ?_) (fun h2 => (cTerm a.value).call ⟨_, rfl, CIf.mk (fun h3 => ?_) (fun h3 => CIf.mk (fun h4 => ?_) (fun h4 => CIf.mk (fun h5 => ?_)
    (fun h5 => (cOther a.pref).call ⟨_, rfl, CIf.mk (fun h6 => (cAtom a.other).call ⟨_, rfl, ?_⟩) (fun h6 => (cEmpty a.other).call ⟨_, rfl, ?_⟩)⟩)))⟩)⟩)⟩
  · simp_all [actB, wk, wk1]
  · simp_all [actB, wk, wk1]
  · simp_all [actB, wk, wk1]
  · have : ¬ 1 ≤ a.pref := by simp at h4; omega
    simp [actB, this, wk, wk1]
  · have : ¬ a.pref ≤ 10 := by simp at h5; omega
    simp [actB, this, wk, wk1]
  all_goals
    have e1 : 1 ≤ a.pref := by simp at h4; omega
    have e2 : a.pref ≤ 10 := by simp at h5; omega
    simp_all [actB, wk, wk1]

theorem atom_word {a : Atom} (h : atomB a = true) : (a.sym.k == 3) = wordA a := by
  unfold atomB at h
  unfold wordA
  cases hv : strEq a.var ⟨#[]⟩ with
  | true => simp
  | false =>
    rw [hv] at h
    simp only [cond_false, Bool.and_eq_true, noneB] at h
    have : a.sym.k = 0 := by simpa using h.2.1
    simp [this]

theorem cRefAct (a : Actn) : Pure Try.prog 47 [.agg a.pv] (pB (actB a)) := by
  refine PureK.of (G_ponderref06_act.c ?_)
  refine (cRefWord a.id).call ⟨_, rfl, CIf.mk (fun h1 => ?_) (fun h1 => (cRefAtom a.attr).call ⟨_, rfl, CIf.mk (fun h2 => ?_) (fun h2 => (cRefAtom a.value.a).call ⟨_, rfl, CIf.mk (fun h3 => ?_) (fun h3 => CIf.mk (fun h4 => ?_) (fun h4 => CIf.mk (fun h5 => ?_) (fun h5 => CIf.mk (fun h6 => ?_) (fun h6 => CIf.mk (fun h7 => ?_) (fun h7 => ?_)))))⟩)⟩)⟩
  · simp_all [actB, wk, wk1]
  · simp_all [actB, wk, wk1]
  · simp_all [actB, termB, wk, wk1]
  · have : ¬ 0 ≤ a.value.op := by simp at h4; omega
    simp [actB, termB, this, wk, wk1]
  · have : ¬ a.value.op ≤ 3 := by simp at h5; omega
    simp [actB, termB, this, wk, wk1]
  · have : ¬ 1 ≤ a.pref := by simp at h6; omega
    simp [actB, this, wk, wk1]
  · have : ¬ a.pref ≤ 10 := by simp at h7; omega
    simp [actB, this, wk, wk1]
  · have e4 : 0 ≤ a.value.op := by simp at h4; omega
    have e5 : a.value.op ≤ 3 := by simp at h5; omega
    have e6 : 1 ≤ a.pref := by simp at h6; omega
    have e7 : a.pref ≤ 10 := by simp at h7; omega
    have e1 : wordB a.id = true := by simpa using h1
    have e2 : atomB a.attr = true := by simpa using h2
    have e3 : atomB a.value.a = true := by simpa using h3
    refine ⟨fun _ _ => termB a.value = true, ?_, ?_⟩
    · refine CIf.mk (fun a1 => CIf.mk (fun a2 => ?_) (fun a2 => ?_)) (fun a1 => (cRefAtom a.value.b).call ⟨_, rfl, CIf.mk (fun a2 => ?_) (fun a2 => CIf.mk (fun a3 => ?_) (fun a3 => CIf.mk (fun a4 => ?_) (fun a4 => ?_)))⟩)
      · have : emptyB a.value.b = false := nb a2
        simp [actB, termB, a1, this, wk, wk1]
      · have : emptyB a.value.b = true := nt a2
        simp [termB, e4, e5, e3, a1, this]
      · have : atomB a.value.b = false := by simpa using a2
        simp [actB, termB, a1, this, wk, wk1]
      · rw [atom_word e3] at a3
        simp [actB, termB, a1, a3, wk, wk1]
      · have b1 : atomB a.value.b = true := by simpa using a2
        rw [atom_word b1] at a4
        simp [actB, termB, a1, a4, wk, wk1]
      · have b1 : atomB a.value.b = true := by simpa using a2
        rw [atom_word e3] at a3
        rw [atom_word b1] at a4
        simp [termB, e4, e5, e3, a1, a3, a4, b1]
    · rintro _ u ht
      have ho : otherB a.pref = decide (a.pref ≥ 8) := by
        simp only [otherB]
        rw [Bool.eq_iff_iff]
        simp; omega
      refine CIf.mk (fun a1 => (cRefAtom a.other).call ⟨_, rfl, ?_⟩) (fun a1 => ?_)
      · simp [actB, e1, e2, ht, e6, e7, ho, a1, wk, wk1]
      · have : emptyB a.other = (strEq a.other.var ⟨#[]⟩ && ((a.other.sym.k == 0) && (strEq a.other.sym.t ⟨#[]⟩ && ((a.other.sym.n == 0) && true)))) := rfl
        simp only [actB, e1, e2, ht, e6, e7, ho, a1, this, wk, wk1]
        simp

end Go.Proofs.Ytfjemjnbemdkgaa

/-
  Productions that may be: conditions, the walk, forms.
-/
namespace Go.Proofs.Ytfjemjnbemdkgaa
open Go.Eng Go.RowKit
set_option linter.unusedVariables false
set_option linter.unusedSimpArgs false
set_option linter.unnecessarySimpa false

theorem gt0 {n : Nat} {b : Bool} (h : decide (((n : Nat) : Int) > 0) = b) : decide (0 < n) = b := by rw [← h]; simp
theorem eq0 {n : Nat} {b : Bool} (h : (((n : Nat) : Int) == 0) = b) : decide (n = 0) = b := by
  rw [← h, Bool.eq_iff_iff]; simp
theorem gt4 {n : Nat} {b : Bool} (h : decide (((n : Nat) : Int) > 4) = b) : decide (4 < n) = b := by
  rw [← h, Bool.eq_iff_iff]; simp; omega

theorem cCondE (c : Cond) (deep : Int) (hl : lightC c) : Pure Try.prog 42 [.agg c.pv, pI deep] (pI (condE c deep)) := by
  obtain ⟨_, ha, hv, hta, htv, _⟩ := (lightC_eq c).1 hl
  rw [Cond.pv_eq]
  refine PureK.of (G_shape_cond.c ?_)
  have e3 : c.kind == 3 → c.kind = 3 := fun h => by simpa using h
  refine ⟨fun _ _ => (c.kind == 3) = false ∧ ((c.kind == 1) || (c.kind == 2)) = true, ?_, ?_⟩
  · refine CIf.mk (fun h3 => ?_) (fun h3 => ?_)
    · refine CIf.mk (fun h => ?_) (fun h => CIf.mk (fun h1 => ?_) (fun h1 => CIf.mk (fun h2 => ?_) (fun h2 => CIf.mk (fun h4 => ?_) (fun h4 => CIf.mk (fun h5 => ?_) (fun h5 => CIf.mk (fun h6 => ?_) (fun h6 => CIf.mk (fun h7 => ?_) (fun h7 => ?_)))))))
      · simp [condE, h3, h, wk, wk1]
      · simp [condE, h3, nb h1, wk, wk1]
      · rw [List.length_map] at h2; simp only [condE, h3, gt0 h2, wk, wk1]; simp
      · rw [List.length_map] at h4; simp only [condE, h3, gt0 h4, wk, wk1]; simp
      · simp [condE, h3, h5, wk, wk1]
      · rw [List.length_map] at h6; simp only [condE, h3, eq0 h6, wk, wk1]; simp
      · rw [List.length_map] at h2 h4 h6
        have : decide (3 ≤ deep) = true := h7
        simp only [condE, h3, h, nt h1, gt0 h2, gt0 h4, h5, eq0 h6, this, wk, wk1]; rfl
      · rw [List.length_map] at h2 h4 h6
        have : decide (3 ≤ deep) = false := h7
        simp only [condE, h3, h, nt h1, gt0 h2, gt0 h4, h5, eq0 h6, this, wk, wk1]; rfl
    · refine CIf.mk (fun h1 => CIf.mk (fun h2 => ⟨h3, by simp [h1]⟩) (fun h2 => by rw [h1] at h2; cases h2)) (fun h1 => CIf.mk (fun h2 => ⟨h3, by simp [h2]⟩) (fun h2 => ?_))
      simp [condE, h3, h1, h2, wk, wk1]
  · rintro _ u ⟨h3, h12⟩
    refine CIf.mk (fun h => ?_) (fun h => (cWord c.id).call ⟨_, rfl, CIf.mk (fun h1 => ?_) (fun h1 => CIf.mk (fun h2 => ?_) (fun h2 => CIf.mk (fun h4 => ?_) (fun h4 => CIf.mk (fun h5 => ?_) (fun h5 => (cTests .sh c.attr (by omega) (lightTs hta)).call ⟨_, rfl, CIf.mk (fun h6 => ?_) (fun h6 => (cTests .sh c.value (by omega) (lightTs htv)).call ⟨_, rfl, CIf.mk (fun h7 => ?_) (fun h7 => ?_)⟩)⟩))))⟩)
    · rw [List.length_map] at h; simp only [condE, h3, h12, gt0 h, wk, wk1]; rfl
    · simp only [condE, h3, h12, nb h1, wk, wk1]; simp
    · rw [List.length_map] at h2; simp only [condE, h3, h12, eq0 h2, wk, wk1]; simp
    all_goals rw [List.length_map] at h h2 h4
    · simp only [condE, h3, h12, gt0 h, nt h1, eq0 h2, gt4 h4, wk, wk1]; simp
    all_goals rw [List.length_map] at h5
    · simp only [condE, h3, h12, gt0 h, nt h1, eq0 h2, gt4 h4, gt4 h5, wk, wk1]; simp
    · simp only [condE, h3, h12, gt0 h, nt h1, eq0 h2, gt4 h4, gt4 h5, nb h6, wk, wk1]; simp
    · simp only [condE, h3, h12, gt0 h, nt h1, eq0 h2, gt4 h4, gt4 h5, nt h6, nb h7, wk, wk1]; simp
    · simp only [condE, h3, h12, gt0 h, nt h1, eq0 h2, gt4 h4, gt4 h5, nt h6, nt h7, wk, wk1]; simp

theorem cRefCondE (c : Cond) (deep : Int) (hl : lightC c) : Pure Try.prog 72 [.agg c.pv, pI deep] (pI (condE c deep)) := by
  obtain ⟨_, ha, hv, hta, htv, _⟩ := (lightC_eq c).1 hl
  rw [Cond.pv_eq]
  refine PureK.of (G_ponderref06_cond.c ?_)
  refine CIf.mk (fun k1 => ?_) (fun k1 => CIf.mk (fun k2 => ?_) (fun k2 => CIf.mk (fun h3 => ?_) (fun h3 => ?_)))
  · have a1 : (c.kind == 3) = false := by simp at k1 ⊢; omega
    have a2 : ((c.kind == 1) || (c.kind == 2)) = false := by simp at k1 ⊢; omega
    simp only [condE, a1, a2, wk, wk1]; rfl
  · have a1 : (c.kind == 3) = false := by simp at k2 ⊢; omega
    have a2 : ((c.kind == 1) || (c.kind == 2)) = false := by simp at k2 ⊢; omega
    simp only [condE, a1, a2, wk, wk1]; rfl
  · refine CIf.mk (fun h => ?_) (fun h => CIf.mk (fun h1 => ?_) (fun h1 => CIf.mk (fun h2 => ?_) (fun h2 => CIf.mk (fun h4 => ?_) (fun h4 => CIf.mk (fun h5 => ?_) (fun h5 => CIf.mk (fun h6 => ?_) (fun h6 => CIf.mk (fun h7 => ?_) (fun h7 => ?_)))))))
    · simp [condE, h3, h, wk, wk1]
    · simp [condE, h3, nb h1, wk, wk1]
    · rw [List.length_map] at h2; simp only [condE, h3, gt0 h2, wk, wk1]; simp
    · rw [List.length_map] at h4; simp only [condE, h3, gt0 h4, wk, wk1]; simp
    · simp [condE, h3, h5, wk, wk1]
    · rw [List.length_map] at h6; simp only [condE, h3, eq0 h6, wk, wk1]; simp
    · rw [List.length_map] at h2 h4 h6
      have : decide (3 ≤ deep) = true := h7
      simp only [condE, h3, h, nt h1, gt0 h2, gt0 h4, h5, eq0 h6, this, wk, wk1]; rfl
    · rw [List.length_map] at h2 h4 h6
      have : decide (3 ≤ deep) = false := h7
      simp only [condE, h3, h, nt h1, gt0 h2, gt0 h4, h5, eq0 h6, this, wk, wk1]; rfl
  · have h12 : ((c.kind == 1) || (c.kind == 2)) = true := by simp at k1 k2 h3 ⊢; omega
    refine CIf.mk (fun h => ?_) (fun h => (cRefWord c.id).call ⟨_, rfl, CIf.mk (fun h1 => ?_) (fun h1 => CIf.mk (fun h2 => ?_) (fun h2 => CIf.mk (fun h4 => ?_) (fun h4 => CIf.mk (fun h5 => ?_) (fun h5 => (cRefTests .sh c.attr (by omega) (lightTs hta)).call ⟨_, rfl, CIf.mk (fun h6 => ?_) (fun h6 => (cRefTests .sh c.value (by omega) (lightTs htv)).call ⟨_, rfl, CIf.mk (fun h7 => ?_) (fun h7 => ?_)⟩)⟩))))⟩)
    · rw [List.length_map] at h; simp only [condE, h3, h12, gt0 h, wk, wk1]; rfl
    · simp only [condE, h3, h12, nb h1, wk, wk1]; simp
    · rw [List.length_map] at h2; simp only [condE, h3, h12, eq0 h2, wk, wk1]; simp
    all_goals rw [List.length_map] at h h2 h4
    · simp only [condE, h3, h12, gt0 h, nt h1, eq0 h2, gt4 h4, wk, wk1]; simp
    all_goals rw [List.length_map] at h5
    · simp only [condE, h3, h12, gt0 h, nt h1, eq0 h2, gt4 h4, gt4 h5, wk, wk1]; simp
    · simp only [condE, h3, h12, gt0 h, nt h1, eq0 h2, gt4 h4, gt4 h5, nb h6, wk, wk1]; simp
    · simp only [condE, h3, h12, gt0 h, nt h1, eq0 h2, gt4 h4, gt4 h5, nt h6, nb h7, wk, wk1]; simp
    · simp only [condE, h3, h12, gt0 h, nt h1, eq0 h2, gt4 h4, gt4 h5, nt h6, nt h7, wk, wk1]; simp

theorem cRefSize : ∀ (n : Nat) (fl : Fl) (l : List Cond), sizeL l ≤ n → sizeL l ≤ 1000000 → Pure Try.prog 45 [.list 7 fl (l.map Cond.pv)] (pI (sizeL l : Nat)) := by
  intro n
  induction n with
  | zero =>
    intro fl l h _
    have : l = [] := by
      cases l with
      | nil => rfl
      | cons c l => simp [sizeL, sizeC_eq] at h
    subst this
    refine PureK.of (G_ponderref06_Size.c ?_)
    exact LoopI.each2 (n := 0) (by omega) (fun k x u => x = 0) rfl (fun k x u next hk => by omega) (fun x u next hx => by subst hx; exact CIf.f (by simp) rfl)
  | succ n ih =>
    intro fl l h h6
    refine PureK.of (G_ponderref06_Size.c ?_)
    have hll := sizeL_len l
    refine LoopI.each2 (n := l.length) (by omega) (fun k x u => x = ((sizeL (l.take k) : Nat) : Int)) (by simp [sizeL]) ?_ ?_
    · rintro k _ u next hk rfl hnext
      have hm := sizeL_mem (List.getElem_mem hk)
      have hs := sizeL_split l (k + 1)
      rw [sizeL_take hk] at hs
      refine CIf.t (by simpa using hk) ⟨by omega, _, atRow hk, .sh, l[k].conds.map Cond.pv, by rw [Cond.pv_eq]; rfl, (ih .sh l[k].conds (by omega) (by omega)).call ⟨_, rfl, ?_⟩⟩
      dsimp only
      rw [wrap_id (x := (1 : Int) + _) (by omega) (by omega), wrap_id (x := ((sizeL (l.take k) : Nat) : Int) + _) (by omega) (by omega)]
      exact hnext _ _ (by rw [sizeL_take hk]; omega)
    · rintro _ u next rfl
      refine CIf.f (by simp) ?_
      rw [List.take_length]; rfl

/-- The first that is wrong, as the document tells it. -/
def condsE (l : List Cond) (a d : Nat) : PV := match firstE (preL l a d) with
  | some (x, e) => .tup [pI (x : Nat), pI e]
  | none => .tup [pI (-1), pI 0]

theorem cRefConds : ∀ (n : Nat) (fl : Fl) (l : List Cond) (a d : Nat), sizeL l ≤ n → lightL l → a + sizeL l ≤ 1000000 → d + sizeL l ≤ 1000000 → Pure Try.prog 46 [.list 7 fl (l.map Cond.pv), pI (a : Nat), pI (d : Nat)] (condsE l a d) := by
  intro n
  induction n with
  | zero =>
    intro fl l a d h _ _ _
    have : l = [] := by
      cases l with
      | nil => rfl
      | cons c l => simp [sizeL, sizeC_eq] at h
    subst this
    refine PureK.of (G_ponderref06_conds.c ?_)
    exact LoopI.each2 (n := 0) (by omega) (fun k x u => True) trivial (fun k x u next hk => by omega) (fun x u next hx => CIf.f (by simp) rfl)
  | succ n ih =>
    intro fl l a d h hlt ha hd
    refine PureK.of (G_ponderref06_conds.c ?_)
    have hll := sizeL_len l
    refine LoopI.each2 (n := l.length) (by omega) (fun k x u => x = ((a + sizeL (l.take k) : Nat) : Int) ∧ firstE (preL (l.take k) a d) = none) ⟨by simp [sizeL], rfl⟩ ?_ ?_
    · rintro k _ u next hk ⟨rfl, hf⟩ hnext
      have hm := sizeL_mem (List.getElem_mem hk)
      have hs := sizeL_split l (k + 1)
      rw [sizeL_take hk] at hs
      have hlk := lightL_iff.1 hlt _ (List.getElem_mem hk)
      have hpre := preL_at hk a d
      refine CIf.t (by simpa using hk) ⟨by omega, _, atRow hk, _, _, _, _, _, _, _, _, _, _, by rw [Cond.pv_eq]; rfl, ?_⟩
      have hc := cRefCondE l[k] d hlk
      rw [Cond.pv_eq] at hc
      refine hc.call ⟨_, rfl, CIf.mk (fun h1 => ?_) (fun h1 => ?_)⟩
      · have h1 : (condE l[k] d == 0) = false := by simpa using h1
        have : firstE (preL l a d) = some (a + sizeL (l.take k), condE l[k] d) := by
          rw [hpre, List.append_assoc, firstE_append, hf, Option.none_or, List.cons_append, firstE, h1]; rfl
        simp only [condsE, this]; rfl
      · have h1 : (condE l[k] d == 0) = true := by simpa using h1
        refine ⟨by omega, _, atRow hk, .sh, l[k].conds.map Cond.pv, by rw [Cond.pv_eq]; rfl, ?_⟩
        have ihk := ih .sh l[k].conds (a + sizeL (l.take k) + 1) (d + 1) (by omega) ((lightC_eq _).1 hlk).2.2.2.2.2 (by omega) (by omega)
        rw [wrap_id (by omega) (by omega), wrap_id (by omega) (by omega)]
        refine ihk.call ?_
        cases hfe : firstE (preL l[k].conds (a + sizeL (l.take k) + 1) (d + 1)) with
        | some r =>
          obtain ⟨x, e⟩ := r
          have hne := firstE_ne hfe
          have : firstE (preL l a d) = some (x, e) := by
            rw [hpre, List.append_assoc, firstE_append, hf, Option.none_or, List.cons_append, firstE, h1, cond_true, firstE_append, hfe]; rfl
          simp only [condsE, hfe, this]
          exact ⟨_, _, rfl, CIf.t (by simpa using hne) rfl⟩
        | none =>
          simp only [condsE, hfe]
          refine ⟨_, _, rfl, CIf.f rfl ⟨by omega, _, atRow hk, .sh, l[k].conds.map Cond.pv, by rw [Cond.pv_eq]; rfl, (cRefSize _ .sh l[k].conds (Nat.le_refl _) (by omega)).call ⟨_, rfl, ?_⟩⟩⟩
          rw [wrap_id (x := (1 : Int) + _) (by omega) (by omega), wrap_id (x := ((a + sizeL (l.take k) : Nat) : Int) + _) (by omega) (by omega)]
          refine hnext _ _ ⟨by rw [sizeL_take hk]; omega, ?_⟩
          rw [preL_take hk, firstE_append, hf, Option.none_or, firstE, h1, cond_true]
          exact hfe
    · rintro _ u next ⟨rfl, hf⟩
      refine CIf.f (by simp) ?_
      rw [List.take_length] at hf
      simp only [condsE, hf]; rfl

theorem cWalk (fy : Fn) (ya yb : List PV) (hy : fnOk fy True) (I : Nat → Mem → Prop) (S : Mem → Prop) : ∀ (n : Nat) (fl : Fl) (l : List Cond) (a d j : Nat) (μ : Mem), sizeL l ≤ n → a + sizeL l ≤ 1000000 → d + sizeL l ≤ 1000000 → I j μ →
    (∀ (k : Nat) (x : Nat × Nat × Cond) (μ : Mem), (preL l a d)[k]? = some x → I (j + k) μ → CallVP Try.prog (.fn fy ya yb) [pI (x.1 : Nat), pI (x.2.1 : Nat), .agg x.2.2.pv] μ fun v μ' => (v = pB true ∧ I (j + k + 1) μ') ∨ (v = pB false ∧ S μ')) →
    CallP Try.prog 39 [.list 7 fl (l.map Cond.pv), pI (a : Nat), pI (d : Nat), .fn fy ya yb] μ fun p μ' => (p = .tup [pI ((a + sizeL l : Nat) : Int), pB true] ∧ I (j + sizeL l) μ') ∨ ∃ x : Int, p = .tup [pI x, pB false] ∧ S μ' := by
  intro n
  induction n with
  | zero =>
    intro fl l a d j μ h _ _ hI _
    have : l = [] := by
      cases l with
      | nil => rfl
      | cons c l => simp [sizeL, sizeC_eq] at h
    subst this
    refine G_shape_walk.c ?_
    exact LoopI.each2 (n := 0) (by omega) (fun k x u => x = (a : Int) ∧ I j u) ⟨rfl, hI⟩ (fun k x u next hk => by omega) (fun x u next hx => by obtain ⟨rfl, hx⟩ := hx; exact CIf.f (by simp) (.inl ⟨rfl, hx⟩))
  | succ n ih =>
    intro fl l a d j μ h ha hd hI hstep
    refine G_shape_walk.c ?_
    have hll := sizeL_len l
    refine LoopI.each2 (n := l.length) (by omega) (fun k x u => x = ((a + sizeL (l.take k) : Nat) : Int) ∧ I (j + sizeL (l.take k)) u) ⟨by simp [sizeL], by simpa [sizeL] using hI⟩ ?_ ?_
    · rintro k _ u next hk ⟨rfl, hIk⟩ hnext
      have hm := sizeL_mem (List.getElem_mem hk)
      have hs := sizeL_split l (k + 1)
      rw [sizeL_take hk] at hs
      have hpre := preL_at hk a d
      have hpl := preL_len (l.take k) a d
      refine CIf.t (by simpa using hk) ⟨by omega, _, atRow hk, _, _, _, _, _, _, _, _, _, _, by rw [Cond.pv_eq]; rfl, ?_⟩
      have h0 := hstep (sizeL (l.take k)) (a + sizeL (l.take k), d, l[k]) u (by
        rw [hpre, List.append_assoc, List.getElem?_append_right (by omega), hpl]; simp) hIk
      rw [Cond.pv_eq] at h0
      refine h0.mono ?_
      rintro v μ1 (⟨rfl, hI1⟩ | ⟨rfl, hS⟩)
      · refine ⟨_, rfl, CIf.f rfl ?_⟩
        rw [wrap_id (by omega) (by omega), wrap_id (by omega) (by omega)]
        have ihk := ih .sh l[k].conds (a + sizeL (l.take k) + 1) (d + 1) (j + sizeL (l.take k) + 1) μ1 (by omega) (by omega) (by omega) hI1 (fun k' x μ' hx hI' => by
          have hlen := preL_len l[k].conds (a + sizeL (l.take k) + 1) (d + 1)
          have hk' : k' < sizeL l[k].conds := by rw [← hlen]; exact (List.getElem?_eq_some_iff.1 hx).1
          have := hstep (sizeL (l.take k) + 1 + k') x μ' (by
            rw [hpre, List.append_assoc, List.getElem?_append_right (by omega), hpl]
            have : sizeL (l.take k) + 1 + k' - sizeL (l.take k) = k' + 1 := by omega
            rw [this, List.cons_append, List.getElem?_cons_succ, List.getElem?_append_left (by omega)]
            exact hx) (by rw [← Nat.add_assoc, ← Nat.add_assoc]; exact hI')
          rw [← Nat.add_assoc, ← Nat.add_assoc] at this
          exact this)
        refine CallP.mono ihk ?_
        rintro v μ2 (⟨rfl, hI2⟩ | ⟨x, rfl, hS⟩)
        · refine ⟨_, _, rfl, CIf.f rfl (hnext _ _ ⟨by rw [sizeL_take hk]; omega, ?_⟩)⟩
          rw [sizeL_take hk, ← Nat.add_assoc, ← Nat.add_assoc]; exact hI2
        · exact ⟨_, _, rfl, CIf.t rfl (.inr ⟨x, rfl, hS⟩)⟩
      · exact ⟨_, rfl, CIf.t rfl (.inr ⟨_, rfl, hS⟩)⟩
    · rintro _ u next ⟨rfl, hIk⟩
      refine CIf.f (by simp) (.inl ?_)
      rw [List.take_length] at hIk ⊢
      exact ⟨rfl, hIk⟩

end Go.Proofs.Ytfjemjnbemdkgaa

/-
  Productions that may be: forms.
-/
namespace Go.Proofs.Ytfjemjnbemdkgaa
open Go.Eng Go.RowKit
set_option linter.unusedVariables false
set_option linter.unusedSimpArgs false
set_option linter.unnecessarySimpa false

theorem rdM_one {μ : Mem} {b : Nat} {T : TypeId} {p : PV} (h : μ b = some (.cells T [p])) : rdM μ b 0 1 = some [p] := by simp [rdM, h]

theorem wrAt {μ : Mem} {b : Nat} {T : TypeId} {p q : PV} : (μ.set b (some (.cells T (wrL [p] 0 [q])))) b = some (.cells T [q]) := by simp [wrL]
theorem rdM_wr {μ : Mem} {b : Nat} {T : TypeId} {p q : PV} : rdM (μ.set b (some (.cells T (wrL [p] 0 [q])))) b 0 1 = some [q] := rdM_one wrAt

@[reducible] def pairP (x : Int × Int) : PV := .tup [pI x.1, pI x.2]

/-- The first action that is wrong: a loop. -/
theorem actsLoop {l : List Actn} {body : (Int → Mem → Prop) → Int → Mem → Prop} {u : Mem} {A : Mem → Prop} (hl : l.length ≤ 1000000) (h0 : A u)
    (hin : ∀ (k : Nat) (hk : k < l.length) (u : Mem) (next : Int → Mem → Prop), A u → (actB l[k] = true → ∀ u', A u' → next (IntKind.wrap .i64 ((k : Int) + 1)) u') → (actB l[k] = false → firstA 0 l = some k) → body next (k : Int) u)
    (hout : ∀ (u : Mem) (next : Int → Mem → Prop), A u → firstA 0 l = none → body next (l.length : Int) u) : LoopI body 0 u := by
  refine LoopI.each (n := l.length) (by omega) (fun k u => A u ∧ firstA 0 (l.take k) = none) ⟨h0, rfl⟩ ?_ ?_
  · rintro k u next hk ⟨hA, hf⟩ hnext
    exact hin k hk u next hA (fun ha u' hA' => hnext u' ⟨hA', by rw [firstA_take hk hf, ha]; rfl⟩) (fun ha => by have := firstA_hit hk hf ha; simpa using this)
  · rintro u next ⟨hA, hf⟩
    rw [List.take_length] at hf
    exact hout u next hA hf

theorem cRefShape (fc fa : Fl) (p : Prod) (hl : lightL p.conds) (hs : sizeL p.conds ≤ 1000000) (ha : p.acts.length ≤ 1000000) : Pure Try.prog 14 [.agg [pS p.name, .list 7 fc (p.conds.map Cond.pv), .list 19 fa (p.acts.map Actn.pv)]] (pairP (shapeE p)) := by
  refine PureK.of (G_ponderref06_Shape.c ?_)
  refine (cRefWord p.name).call ⟨_, rfl, CIf.mk (fun h1 => ?_) (fun h1 => (cRefSize _ fc p.conds (Nat.le_refl _) hs).call ⟨_, rfl, CIf.mk (fun h2 => ?_) (fun h2 => CIf.mk (fun h3 => ?_) (fun h3 => CIf.mk (fun h4 => ?_) (fun h4 => CIf.mk (fun h5 => ?_) (fun h5 => ?_))))⟩)⟩
  · simp [shapeE, nb h1, wk, wk1, wk2]
  all_goals have e1 : wordB p.name = true := nt h1
  · have : sizeL p.conds < 1 := by have := of_decide_eq_true h2; omega
    simp [shapeE, e1, this, wk, wk1, wk2]
  · have : 16 < sizeL p.conds := by simp at h3; omega
    simp [shapeE, e1, this, wk, wk1, wk2]
  · have : p.acts.length < 1 := by have := of_decide_eq_true h4; simp only [List.length_map] at this; omega
    simp [shapeE, e1, this, wk, wk1, wk2]
  · have : 16 < p.acts.length := by simp at h5; omega
    simp [shapeE, e1, this, wk, wk1, wk2]
  · have e2 : ¬ sizeL p.conds < 1 := by have := of_decide_eq_false h2; omega
    have e3 : ¬ 16 < sizeL p.conds := by simp at h3; omega
    have e4 : ¬ p.acts.length < 1 := by have := of_decide_eq_false h4; simp only [List.length_map] at this; omega
    have e5 : ¬ 16 < p.acts.length := by simp at h5; omega
    refine (cRefConds _ fc p.conds 0 0 (Nat.le_refl _) hl (by omega) (by omega)).call ?_
    have hsh : shapeE p = shapeT p := by simp [shapeE, e1, e2, e3, e4, e5]
    cases hf : firstE (preL p.conds 0 0) with
    | some r =>
      obtain ⟨x, e⟩ := r
      have hne := firstE_ne hf
      simp only [condsE, hf]
      refine ⟨_, _, rfl, CIf.t (by simpa using hne) ?_⟩
      rw [hsh, shapeT_e hf]; rfl
    | none =>
      simp only [condsE, hf]
      refine ⟨_, _, rfl, CIf.f rfl ?_⟩
      refine actsLoop (l := p.acts) (A := fun _ => True) ha trivial (fun k hk u next _ hy hno => ?_) (fun u next _ hfa => ?_)
      · refine CIf.t (by simpa using hk) ⟨by omega, _, atRow hk, _, _, _, _, _, _, _, _, _, _, _, _, _, _, _, _, _, _, _, rfl, (cRefAct p.acts[k]).call ⟨_, rfl, CIf.mk (fun a => ?_) (fun a => hy (nt a) _ trivial)⟩⟩
        rw [hsh, shapeT_a hf (hno (nb a)), wrap_id (by omega) (by omega)]
        simp [wk, wk1, wk2]
      · refine CIf.f (by simp) ?_
        rw [hsh, shapeT_ok hf hfa]; rfl

theorem cShape (fc fa : Fl) (p : Prod) (hl : lightL p.conds) (hs : sizeL p.conds ≤ 1000000) (ha : p.acts.length ≤ 1000000) : Pure Try.prog 13 [.agg [pS p.name, .list 7 fc (p.conds.map Cond.pv), .list 19 fa (p.acts.map Actn.pv)]] (pairP (shapeE p)) := by
  refine PureK.of (G_shape_Shape.c ?_)
  refine (cWord p.name).call ⟨_, rfl, CIf.mk (fun h1 => ?_) (fun h1 => ?_)⟩
  · simp [shapeE, nb h1, wk, wk1, wk2]
  have e1 : wordB p.name = true := nt h1
  intro b4 hb4
  refine ⟨_, _, Mem.set_same _ _ _, by simp, ?_⟩
  rw [Mem.set_set]
  have hpl := preL_len p.conds 0 0
  refine CallP.mono (cWalk (.func 40) [] [pP b4 0] trivial (fun k μ => μ b4 = some (.cells 3 [pI (k : Nat)]) ∧ k ≤ 16) (fun μ => μ b4 = some (.cells 3 [pI 17]) ∧ 16 < sizeL p.conds) _ fc p.conds 0 0 0 _ (Nat.le_refl _) (by omega) (by omega) ⟨by simp [Mem.set_same, wrL], by omega⟩ (fun k x μ hx hI => ?_)) ?_
  · rw [Nat.zero_add] at hI ⊢
    have hx1 := preL_count _ _ _ _ _ hx
    have hk : k < sizeL p.conds := by rw [← hpl]; exact (List.getElem?_eq_some_iff.1 hx).1
    show CallP _ _ _ _ _
    rw [Cond.pv_eq]
    refine G_shape_Shape_1.c ?_
    refine ⟨_, _, hI.1, by simp, _, rdM_wr, ?_⟩
    rw [hx1, Nat.zero_add, wrap_id (by omega) (by omega)]
    by_cases h16 : k + 1 ≤ 16
    · exact .inl ⟨by simp; omega, by rw [wrAt]; rfl, h16⟩
    · have : k = 16 := by omega
      subst this
      exact .inr ⟨by simp, by rw [wrAt]; rfl, hk⟩
  rintro v μ1 hv
  have hres : ∃ (x : Int) (q : Bool) (m : Nat), v = .tup [pI x, pB q] ∧ μ1 b4 = some (.cells 3 [pI (m : Nat)]) ∧ (m ≤ 16 → m = sizeL p.conds) ∧ (16 < m → 16 < sizeL p.conds) := by
    rcases hv with ⟨rfl, h1, h2⟩ | ⟨x, rfl, h1, h2⟩
    · rw [Nat.zero_add] at h1 h2
      exact ⟨_, _, _, rfl, h1, fun _ => rfl, fun h => by omega⟩
    · exact ⟨_, _, 17, rfl, h1, fun h => by omega, fun _ => h2⟩
  obtain ⟨x, q, m, rfl, hm1, hm2, hm3⟩ := hres
  refine ⟨_, _, rfl, _, rdM_one hm1, CIf.mk (fun h2 => ?_) (fun h2 => ⟨_, rdM_one hm1, CIf.mk (fun h3 => ?_) (fun h3 => CIf.mk (fun h4 => ?_) (fun h4 => CIf.mk (fun h5 => ?_) (fun h5 => ?_)))⟩)⟩
  · have : sizeL p.conds < 1 := by have := of_decide_eq_true h2; have := hm2 (by omega); omega
    simp [shapeE, e1, this, wk, wk1, wk2]
  · have : 16 < sizeL p.conds := hm3 (by simp at h3; omega)
    simp [shapeE, e1, this, wk, wk1, wk2]
  · have : p.acts.length < 1 := by have := of_decide_eq_true h4; simp only [List.length_map] at this; omega
    simp [shapeE, e1, this, wk, wk1, wk2]
  · have : 16 < p.acts.length := by simp at h5; omega
    simp [shapeE, e1, this, wk, wk1, wk2]
  have hmm : m = sizeL p.conds := hm2 (by simp at h3; omega)
  subst hmm
  have e2 : ¬ sizeL p.conds < 1 := by have := of_decide_eq_false h2; omega
  have e3 : ¬ 16 < sizeL p.conds := by simp at h3; omega
  have e4 : ¬ p.acts.length < 1 := by have := of_decide_eq_false h4; simp only [List.length_map] at this; omega
  have e5 : ¬ 16 < p.acts.length := by simp at h5; omega
  have hsh : shapeE p = shapeT p := by simp [shapeE, e1, e2, e3, e4, e5]
  intro b5 hb5 b6 hb6
  have n54 : b5 ≠ b4 := by rintro rfl; rw [hm1] at hb5; cases hb5
  have n65 : b6 ≠ b5 := by rintro rfl; rw [Mem.set_same] at hb6; cases hb6
  have n64 : b6 ≠ b4 := by rintro rfl; rw [Mem.set_ne _ _ (Ne.symm n54)] at hb6; rw [hm1] at hb6; cases hb6
  refine ⟨_, _, by rw [Mem.set_ne _ _ (Ne.symm n65)]; exact Mem.set_same _ _ _, by simp, ?_⟩
  refine ⟨_, _, by rw [Mem.set_ne _ _ n65]; exact Mem.set_same _ _ _, by simp, ?_⟩
  refine CallP.mono (cWalk (.func 41) [] [pP b6 0, pP b5 0] trivial (fun k μ => μ b4 = some (.cells 3 [pI (sizeL p.conds : Nat)]) ∧ μ b5 = some (.cells 3 [pI (-1)]) ∧ μ b6 = some (.cells 28 [pI 0]) ∧ firstE ((preL p.conds 0 0).take k) = none)
    (fun μ => ∃ a e, μ b5 = some (.cells 3 [pI (a : Nat)]) ∧ μ b6 = some (.cells 28 [pI e]) ∧ firstE (preL p.conds 0 0) = some (a, e)) _ fc p.conds 0 0 0 _ (Nat.le_refl _) (by omega) (by omega) ?_ (fun k x μ hx hI => ?_)) ?_
  · refine ⟨?_, ?_, by simp [wrL], rfl⟩
    · rw [Mem.set_ne _ _ (Ne.symm n64), Mem.set_ne _ _ (Ne.symm n54), Mem.set_ne _ _ (Ne.symm n64), Mem.set_ne _ _ (Ne.symm n54)]; exact hm1
    · rw [Mem.set_ne _ _ (Ne.symm n65), Mem.set_same]; simp [wrL]
  · rw [Nat.zero_add] at hI ⊢
    obtain ⟨i4, i5, i6, hfk⟩ := hI
    have hlx := lightL_pre _ _ _ x hl (List.mem_of_getElem? hx)
    have htk := firstE_take hx hfk
    show CallP _ _ _ _ _
    have hc := cCondE x.2.2 x.2.1 hlx
    rw [Cond.pv_eq] at hc ⊢
    refine G_shape_Shape_2.c (hc.call ⟨_, rfl, _, _, i6, by simp, _, rdM_wr, CIf.mk (fun h => ?_) (fun h => ?_)⟩)
    · have hne : (condE x.2.2 x.2.1 == 0) = false := by simpa using h
      refine ⟨_, _, by rw [Mem.set_ne _ _ (Ne.symm n65)]; exact i5, by simp, _, rdM_one (by rw [Mem.set_ne _ _ n65]; exact wrAt), .inr ⟨by rw [hne], x.1, condE x.2.2 x.2.1, ?_, ?_, ?_⟩⟩
      · exact wrAt
      · rw [Mem.set_ne _ _ n65]; exact wrAt
      · rw [hne] at htk; exact firstE_stop htk
    · have he : (condE x.2.2 x.2.1 == 0) = true := by simpa using h
      have he0 : condE x.2.2 x.2.1 = 0 := by simpa using he
      refine ⟨_, rdM_wr, .inl ⟨by rw [he], ?_, ?_, ?_, ?_⟩⟩
      · rw [Mem.set_ne _ _ (Ne.symm n64)]; exact i4
      · rw [Mem.set_ne _ _ (Ne.symm n65)]; exact i5
      · rw [wrAt, he0]
      · rw [htk, he]; rfl
  rintro v μ2 hv
  rcases hv with ⟨rfl, i4, i5, i6, hfk⟩ | ⟨x, rfl, a, e, i5, i6, hfe⟩
  · rw [Nat.zero_add, ← hpl, List.take_length] at hfk
    refine ⟨_, _, rfl, _, rdM_one i6, CIf.f rfl ?_⟩
    refine actsLoop (l := p.acts) (A := fun μ => μ b4 = some (.cells 3 [pI (sizeL p.conds : Nat)])) ha i4 (fun k hk u next hA hy hno => ?_) (fun u next _ hf => ?_)
    · refine CIf.t (by simpa using hk) ⟨by omega, _, atRow hk, _, _, _, _, _, _, _, _, _, _, _, _, _, _, _, _, _, _, _, rfl, (cAct p.acts[k]).call ⟨_, rfl, CIf.mk (fun a => ⟨_, rdM_one hA, ?_⟩) (fun a => hy (nt a) _ hA)⟩⟩
      rw [hsh, shapeT_a hfk (hno (nb a)), wrap_id (by omega) (by omega)]
      simp [wk, wk1, wk2]
    · refine CIf.f (by simp) ?_
      rw [hsh, shapeT_ok hfk hf]; rfl
  · have hne := firstE_ne hfe
    refine ⟨_, _, rfl, _, rdM_one i6, CIf.t (by simpa using hne) ⟨_, rdM_one i5, _, rdM_one i6, ?_⟩⟩
    rw [hsh, shapeT_e hfe]; rfl

end Go.Proofs.Ytfjemjnbemdkgaa

/-
  Which variables are known: plain definitions.
-/
namespace Go.Proofs.Ytfjemjnbemdkgaa
open Go.Eng Go.RowKit
set_option linter.unusedVariables false
set_option linter.unusedSimpArgs false
set_option linter.unnecessarySimpa false

def hasB (K : List ByteArray) (v : ByteArray) : Bool := K.any fun x => strEq x v
theorem hasB_iff {K : List ByteArray} {v : ByteArray} : hasB K v = true ↔ v ∈ K := by
  unfold hasB
  rw [List.any_eq_true]
  constructor
  · rintro ⟨x, hx, e⟩; rw [strEq_iff] at e; exact e ▸ hx
  · intro h; exact ⟨v, h, strEq_iff.2 rfl⟩
def newK (K : List ByteArray) (v : ByteArray) : List ByteArray := bif hasB K v then [] else [v]
theorem newK_mem {K : List ByteArray} {v y : ByteArray} : y ∈ K ++ newK K v ↔ y = v ∨ y ∈ K := by
  unfold newK
  cases h : hasB K v with
  | true =>
    simp only [cond_true, List.append_nil]
    exact ⟨fun h => .inr h, fun h' => h'.elim (fun e => e ▸ hasB_iff.1 h) (fun h => h)⟩
  | false => simp only [cond_false, List.mem_append, List.mem_singleton]; exact ⟨fun h => h.symm, fun h => h.symm⟩
theorem newK_len (K : List ByteArray) (v : ByteArray) : (newK K v).length ≤ 1 := by unfold newK; cases hasB K v <;> simp

def metT (K : List ByteArray) (t : Test) : Option (List ByteArray) :=
  bif (t.rel == 8) || strEq t.var ⟨#[]⟩ then some K else bif t.rel == 1 then some (K ++ newK K t.var) else bif hasB K t.var then some K else none
def metL : List ByteArray → List Test → Option (List ByteArray)
  | K, [] => some K
  | K, t :: ts => match metT K t with
    | some K' => metL K' ts
    | none => none
theorem metL_append (K : List ByteArray) (a b : List Test) : metL K (a ++ b) = (metL K a).bind fun K' => metL K' b := by
  induction a generalizing K with
  | nil => rfl
  | cons t a ih =>
    simp only [List.cons_append, metL]
    cases metT K t with
    | none => rfl
    | some K' => exact ih K'
theorem metL_take {K K' : List ByteArray} {ts : List Test} {i : Nat} (hi : i < ts.length) (h : metL K (ts.take i) = some K') : metL K (ts.take (i + 1)) = metT K' ts[i] := by
  rw [List.take_add_one, metL_append, h, List.getElem?_eq_getElem hi]
  simp only [Option.bind_some, Option.toList_some, metL]
  cases metT K' ts[i] <;> rfl
theorem metL_stop {K K' : List ByteArray} {ts : List Test} {i : Nat} (hi : i < ts.length) (h : metL K (ts.take i) = some K') (hn : metT K' ts[i] = none) : metL K ts = none := by
  have : ts = ts.take (i + 1) ++ ts.drop (i + 1) := (List.take_append_drop _ _).symm
  rw [this, metL_append, metL_take hi h, hn]; rfl

def metC (K : List ByteArray) (c : Cond) : Option (List ByteArray) :=
  (fun K0 => bif hasB K0 c.id then (metL K0 c.attr).bind fun K1 => metL K1 c.value else none) (bif c.goal then K ++ newK K c.id else K)

mutual
/-- What is known behind a condition that is the n-th; or the place of the first that is wrong. -/
def knowC : Cond → Nat → List ByteArray → Except Nat (List ByteArray)
  | .mk k g i a v ac cs, n, K =>
    bif k == 3 then (match knowL cs (n + 1) K with
      | .error e => .error e
      | .ok _ => .ok K)
    else match metC K (.mk k g i a v ac cs) with
      | none => .error n
      | some K' => .ok (bif k == 1 then K' else K)
def knowL : List Cond → Nat → List ByteArray → Except Nat (List ByteArray)
  | [], _, K => .ok K
  | c :: cs, n, K => match knowC c n K with
    | .error e => .error e
    | .ok K' => knowL cs (n + sizeC c) K'
end

theorem knowC_eq (c : Cond) (n : Nat) (K : List ByteArray) : knowC c n K = (bif c.kind == 3 then (match knowL c.conds (n + 1) K with
      | .error e => .error e
      | .ok _ => .ok K)
    else match metC K c with
      | none => .error n
      | some K' => .ok (bif c.kind == 1 then K' else K)) := by cases c; simp only [knowC]; rfl

theorem knowL_append (a b : List Cond) (n : Nat) (K : List ByteArray) : knowL (a ++ b) n K = match knowL a n K with
    | .error e => .error e
    | .ok K' => knowL b (n + sizeL a) K' := by
  induction a generalizing n K with
  | nil => simp [knowL, sizeL]
  | cons c a ih =>
    simp only [List.cons_append, knowL, sizeL]
    cases knowC c n K with
    | error e => rfl
    | ok K' => simp only [ih]; rw [Nat.add_assoc]
theorem knowL_take {l : List Cond} {n i : Nat} {K K' : List ByteArray} (hi : i < l.length) (h : knowL (l.take i) n K = .ok K') : knowL (l.take (i + 1)) n K = knowC l[i] (n + sizeL (l.take i)) K' := by
  rw [List.take_add_one, knowL_append, h, List.getElem?_eq_getElem hi]
  simp only [Option.toList_some, knowL]
  cases knowC l[i] (n + sizeL (l.take i)) K' <;> rfl
theorem knowL_stop {l : List Cond} {n i e : Nat} {K K' : List ByteArray} (hi : i < l.length) (h : knowL (l.take i) n K = .ok K') (hn : knowC l[i] (n + sizeL (l.take i)) K' = .error e) : knowL l n K = .error e := by
  have : l = l.take (i + 1) ++ l.drop (i + 1) := (List.take_append_drop _ _).symm
  rw [this, knowL_append, knowL_take hi h, hn]

/-- What may be: as far as it matters here. -/
def okT (t : Test) : Prop := t.rel = 8 → strEq t.var ⟨#[]⟩ = true
mutual
def okC : Cond → Prop
  | .mk k _ _ a v _ cs => (k = 3 ∨ ((k = 1 ∨ k = 2) ∧ cs.length = 0)) ∧ a.length ≤ 4 ∧ v.length ≤ 4 ∧ (∀ t ∈ a, okT t) ∧ (∀ t ∈ v, okT t) ∧ okL cs
def okL : List Cond → Prop
  | [] => True
  | c :: cs => okC c ∧ okL cs
end
theorem okC_eq (c : Cond) : okC c ↔ (c.kind = 3 ∨ ((c.kind = 1 ∨ c.kind = 2) ∧ c.conds.length = 0)) ∧ c.attr.length ≤ 4 ∧ c.value.length ≤ 4 ∧ (∀ t ∈ c.attr, okT t) ∧ (∀ t ∈ c.value, okT t) ∧ okL c.conds := by cases c; rfl
theorem okL_iff {l : List Cond} : okL l ↔ ∀ c ∈ l, okC c := by
  induction l with
  | nil => simp [okL]
  | cons c l ih => simp [okL, ih]

theorem testB_ok {t : Test} (h : testB t = true) : okT t := fun e => by
  unfold testB at h
  simp only [e, beq_self_eq_true, cond_true, Bool.and_eq_true] at h
  exact h.1

theorem condE_ok {c : Cond} {d : Int} (h : condE c d = 0) : (c.kind = 3 ∨ ((c.kind = 1 ∨ c.kind = 2) ∧ c.conds.length = 0)) ∧ c.attr.length ≤ 4 ∧ c.value.length ≤ 4 ∧ (∀ t ∈ c.attr, okT t) ∧ (∀ t ∈ c.value, okT t) := by
  unfold condE at h
  cases h3 : c.kind == 3 with
  | true =>
    rw [h3] at h
    simp only [cond_true] at h
    have hk : c.kind = 3 := by simpa using h3
    cases hb : (c.goal || (!strEq c.id ⟨#[]⟩ || (decide (0 < c.attr.length) || (decide (0 < c.value.length) || (c.acc || decide (c.conds.length = 0)))))) with
    | true => rw [hb] at h; simp at h
    | false =>
      simp only [Bool.or_eq_false_iff, decide_eq_false_iff_not] at hb
      obtain ⟨_, _, ha, hv, _⟩ := hb
      refine ⟨.inl hk, by omega, by omega, fun t ht => ?_, fun t ht => ?_⟩
      · have := List.length_pos_of_mem ht; omega
      · have := List.length_pos_of_mem ht; omega
  | false =>
    rw [h3] at h
    simp only [cond_false] at h
    cases h12 : (c.kind == 1) || (c.kind == 2) with
    | false => rw [h12] at h; simp at h
    | true =>
      rw [h12] at h
      simp only [cond_true] at h
      have hk : c.kind = 1 ∨ c.kind = 2 := by simpa using h12
      cases hb : (decide (0 < c.conds.length) || (!wordB c.id || decide (c.attr.length = 0))) with
      | true => rw [hb] at h; simp at h
      | false =>
        rw [hb] at h
        simp only [cond_false] at h
        cases hm : (decide (4 < c.attr.length) || decide (4 < c.value.length)) with
        | true => rw [hm] at h; simp at h
        | false =>
          rw [hm] at h
          simp only [cond_false] at h
          cases ht : (!(c.attr.all testB) || !(c.value.all testB)) with
          | true => rw [ht] at h; simp at h
          | false =>
            simp only [Bool.or_eq_false_iff, decide_eq_false_iff_not, Bool.not_eq_false', List.all_eq_true] at hb hm ht
            exact ⟨.inr ⟨hk, by omega⟩, by omega, by omega, fun t h => testB_ok (ht.1 t h), fun t h => testB_ok (ht.2 t h)⟩

theorem firstE_none {l : List (Nat × Nat × Cond)} (h : firstE l = none) : ∀ x ∈ l, condE x.2.2 x.2.1 = 0 := by
  induction l with
  | nil => intro x hx; cases hx
  | cons y l ih =>
    obtain ⟨a, d, c⟩ := y
    simp only [firstE] at h
    cases hc : condE c d == 0 with
    | false => rw [hc] at h; cases h
    | true =>
      rw [hc] at h
      intro x hx
      rcases List.mem_cons.1 hx with rfl | hx
      · simpa using hc
      · exact ih h x hx

mutual
theorem okC_pre : ∀ (c : Cond) (a d : Nat), (∀ x ∈ preC c a d, condE x.2.2 x.2.1 = 0) → okC c
  | .mk k g i at_ v ac cs, a, d, h => by
    have h0 := condE_ok (h (a, d, .mk k g i at_ v ac cs) (by simp [preC]))
    exact ⟨h0.1, h0.2.1, h0.2.2.1, h0.2.2.2.1, h0.2.2.2.2, okL_pre cs (a + 1) (d + 1) fun x hx => h x (by simp [preC, hx])⟩
theorem okL_pre : ∀ (l : List Cond) (a d : Nat), (∀ x ∈ preL l a d, condE x.2.2 x.2.1 = 0) → okL l
  | [], _, _, _ => trivial
  | c :: cs, a, d, h => ⟨okC_pre c a d fun x hx => h x (by simp [preL, hx]), okL_pre cs (a + sizeC c) d fun x hx => h x (by simp [preL, hx])⟩
end

/-- The first action with a variable that is not known. -/
def lackB (K : List ByteArray) (a : Atom) : Bool := !strEq a.var ⟨#[]⟩ && !hasB K a.var
def lackA (K : List ByteArray) (a : Actn) : Bool := lackB K a.attr || ((a.value.op != 0) && (lackB K a.value.a || lackB K a.value.b))
def firstL (K : List ByteArray) : Nat → List Actn → Option Nat
  | _, [] => none
  | i, a :: l => bif lackA K a then some i else firstL K (i + 1) l
theorem firstL_take {K : List ByteArray} {l : List Actn} {k i : Nat} (hk : k < l.length) (h : firstL K i (l.take k) = none) : firstL K i (l.take (k + 1)) = (bif lackA K l[k] then some (i + k) else none) := by
  induction l generalizing k i with
  | nil => simp at hk
  | cons a l ih =>
    cases k with
    | zero => simp [firstL]
    | succ k =>
      simp only [List.take_succ_cons, firstL, List.getElem_cons_succ] at h ⊢
      cases ha : lackA K a with
      | true => rw [ha] at h; cases h
      | false =>
        rw [ha] at h
        simp only [cond_false] at h ⊢
        rw [ih (by simpa using hk) h]
        congr 2; omega
theorem firstL_hit {K : List ByteArray} {l : List Actn} {k i : Nat} (hk : k < l.length) (h : firstL K i (l.take k) = none) (ha : lackA K l[k] = true) : firstL K i l = some (i + k) := by
  induction l generalizing k i with
  | nil => simp at hk
  | cons a l ih =>
    cases k with
    | zero => simp only [List.getElem_cons_zero] at ha; simp [firstL, ha]
    | succ k =>
      simp only [List.take_succ_cons, firstL, List.getElem_cons_succ] at h ha ⊢
      cases hb : lackA K a with
      | true => rw [hb] at h; cases h
      | false =>
        rw [hb] at h
        simp only [cond_false] at h ⊢
        rw [ih (by simpa using hk) h ha]
        congr 1; omega

/-- The place and the first error of a production, and what is known behind all conditions. -/
def checkE (p : Prod) : Int × Int × List ByteArray :=
  bif (shapeE p).2 != 0 then ((shapeE p).1, (shapeE p).2, []) else
  bif (p.conds.head?.map Cond.kind).getD 0 != 1 then (0, 9, []) else
  match knowL p.conds 0 [] with
  | .error n => ((n : Int), 6, [])
  | .ok K => match firstL K 0 p.acts with
    | some i => (((sizeL p.conds + i : Nat) : Int), 6, [])
    | none => (-1, 0, K)

/-- A production of its form. -/
theorem shapeE_ok {p : Prod} (h : (shapeE p).2 = 0) : 1 ≤ sizeL p.conds ∧ sizeL p.conds ≤ 16 ∧ 1 ≤ p.acts.length ∧ p.acts.length ≤ 16 ∧ okL p.conds := by
  unfold shapeE at h
  cases hw : wordB p.name with
  | false => rw [hw] at h; simp at h
  | true =>
    rw [hw] at h
    simp only [Bool.not_true, cond_false] at h
    cases hb : (decide (sizeL p.conds < 1) || (decide (16 < sizeL p.conds) || (decide (p.acts.length < 1) || decide (16 < p.acts.length)))) with
    | true => rw [hb] at h; simp at h
    | false =>
      rw [hb] at h
      simp only [cond_false] at h
      simp only [Bool.or_eq_false_iff, decide_eq_false_iff_not] at hb
      refine ⟨by omega, by omega, by omega, by omega, okL_pre _ 0 0 (firstE_none ?_)⟩
      unfold shapeT at h
      split at h
      · rename_i a e he
        exfalso
        have : ∀ l : List (Nat × Nat × Cond), firstE l = some (a, e) → e ≠ 0 := by
          intro l
          induction l with
          | nil => intro h; cases h
          | cons y l ih =>
            obtain ⟨a', d, c⟩ := y
            simp only [firstE]
            cases hc : condE c d == 0 with
            | true => exact ih
            | false =>
              intro h
              simp only [cond_false, Option.some.injEq, Prod.mk.injEq] at h
              rw [← h.2]; simpa using hc
        exact this _ he h
      · assumption

end Go.Proofs.Ytfjemjnbemdkgaa

/-
  Which variables are known: the program's way.
-/
namespace Go.Proofs.Ytfjemjnbemdkgaa
open Go.Eng Go.RowKit
set_option linter.unusedVariables false
set_option linter.unusedSimpArgs false
set_option linter.unnecessarySimpa false

def tipL (fl : Fl) : List Nat := match fl with | .tip b _ => [b] | _ => []
theorem mem_tipL {fl : Fl} {x : Nat} : x ∈ tipL fl ↔ fl.at x := by cases fl <;> simp [tipL, Fl.at]

abbrev tyKnown : TypeId := 108
abbrev tyString : TypeId := 9

/-- The row of names: nil as it was laid, or a slice of its own. -/
def RowIn (μ : Mem) (p : PV) (row : List ByteArray) (F : List Nat) : Prop := (p = .list 1 .nil [] ∧ row = [] ∧ F = []) ∨ OwnV tyString 1 μ p (rowsS row) F

theorem RowIn.at_ {μ : Mem} {p : PV} {row : List ByteArray} {F : List Nat} (h : RowIn μ p row F) : ∀ x ∈ F, μ x ≠ none := by
  rcases h with ⟨_, _, rfl⟩ | h
  · intro x hx; cases hx
  · exact h.at_
theorem RowIn.same {μ μ' : Mem} {p : PV} {row : List ByteArray} {F : List Nat} (h : RowIn μ p row F) (hk : ∀ x ∈ F, μ' x = μ x) : RowIn μ' p row F := by
  rcases h with h | h
  · exact .inl h
  · exact .inr (h.same hk)
theorem RowIn.view {μ : Mem} {p : PV} {row : List ByteArray} {F : List Nat} (h : RowIn μ p row F) : BorV μ p (.list 1 .sh (rowsS row)) := by
  rcases h with ⟨rfl, rfl, _⟩ | h
  · exact .wk (.list 1 .nil [])
  · exact h.view (rowsS_each _) (rowsS_cell _)

/-- What is known, as it lies in memory: its members, and its row. -/
structure KnIn (μ : Mem) (k : Nat) (K row : List ByteArray) (F : List Nat) : Prop where
  ex : ∃ b L p Fs Fr, μ k = some (.cells tyKnown [pP b 0, p]) ∧ NSet μ b L Fs ∧ Up cmpS L ∧ (∀ y, y ∈ L ↔ y ∈ K) ∧ L.length ≤ K.length ∧ RowIn μ p row Fr ∧ k ∉ Fs ∧ (∀ x ∈ Fr, x ≠ k ∧ x ∉ Fs) ∧ F = k :: (Fs ++ Fr)
  row : row.length ≤ K.length

theorem KnIn.at_ {μ : Mem} {k : Nat} {K row : List ByteArray} {F : List Nat} (h : KnIn μ k K row F) : ∀ x ∈ F, μ x ≠ none := by
  obtain ⟨b, L, p, Fs, Fr, h1, h2, _, _, _, h3, _, _, rfl⟩ := h.ex
  intro x hx
  simp only [List.mem_cons, List.mem_append] at hx
  rcases hx with rfl | hx | hx
  · rw [h1]; simp
  · exact h2.at_.2 x hx
  · exact h3.at_ x hx

theorem KnIn.same {μ μ' : Mem} {k : Nat} {K row : List ByteArray} {F : List Nat} (h : KnIn μ k K row F) (hk : ∀ x ∈ F, μ' x = μ x) : KnIn μ' k K row F := by
  obtain ⟨b, L, p, Fs, Fr, h1, h2, h3, h4, h5, h6, h7, h8, rfl⟩ := h.ex
  exact ⟨⟨b, L, p, Fs, Fr, by rw [hk k (by simp)]; exact h1, h2.same fun x hx => hk x (by simp [hx]), h3, h4, h5, h6.same fun x hx => hk x (by simp [hx]), h7, h8, rfl⟩, h.row⟩

/-- nil as a slice of its own. -/
theorem KnIn.raw {μ : Mem} {k : Nat} {K row : List ByteArray} {F : List Nat} (h : KnIn μ k K row F) : ∃ μ', GU μ μ' ∧ Mv μ μ' F F ∧ ∃ b L p Fs Fr, μ' k = some (.cells tyKnown [pP b 0, p]) ∧ NSet μ' b L Fs ∧ Up cmpS L ∧ (∀ y, y ∈ L ↔ y ∈ K) ∧ L.length ≤ K.length ∧ OwnV tyString 1 μ' p (rowsS row) Fr ∧ k ∉ Fs ∧ (∀ x ∈ Fr, x ≠ k ∧ x ∉ Fs) ∧ F = k :: (Fs ++ Fr) := by
  obtain ⟨b, L, p, Fs, Fr, h1, h2, h3, h4, h5, h6, h7, h8, rfl⟩ := h.ex
  rcases h6 with ⟨rfl, rfl, rfl⟩ | h6
  · refine ⟨μ.set k (some (.cells tyKnown [pP b 0, .raw (.slice none 0 0)])), GU.bor (μ1 := M0) (fun _ _ h => by cases h) fun x o hx => ⟨rfl, ?_⟩, (Mv.set (.inl (by simp))).sub (by simp), b, L, _, Fs, [], Mem.set_same _ _ _, h2.same fun x hx => Mem.set_ne _ _ (fun e => h7 (e ▸ hx)), h3, h4, h5, .inl ⟨rfl, rfl, rfl⟩, h7, h8, rfl⟩
    by_cases e : x = k
    · subst e
      rw [Mem.set_same] at hx; cases hx
      exact .inr ⟨tyKnown, _, _, rfl, h1, BorL.cons (.same _) (BorL.cons (.nil 1 []) (BorL.nil _))⟩
    · rw [Mem.set_ne _ _ e] at hx; exact .inl hx
  · exact ⟨μ, GU.refl μ, Mv.refl _ _, b, L, p, Fs, Fr, h1, h2, h3, h4, h5, h6, h7, h8, rfl⟩

theorem cMet {μ : Mem} {k : Nat} {K row : List ByteArray} {F : List Nat} (h : KnIn μ k K row F) (hl : K.length ≤ 100000) (v : ByteArray) {R : PV → Mem → Prop} (hk : ∀ μ' F', KnIn μ' k (K ++ newK K v) (row ++ newK K v) F' → Mv μ μ' F F' → R (.tup []) μ') : CallP Try.prog 101 [pP k 0, pS v] μ R := by
  have hrow := h.row
  obtain ⟨μ0, hG, hm0, b, L, p, Fs, Fr, h1, h2, h3, h4, h5, h6, h7, h8, rfl⟩ := h.raw
  refine CallP.pre hG (G_shape_known_met.c ?_)
  refine ⟨_, rdM_at h1 (by simp), cPut h2 h3 (by omega) v fun μ1 L1 F1 t ht i1 i2 i3 i4 i5 => ⟨_, rfl, ?_⟩⟩
  have hkF : μ1 k = μ0 k := i5.keep k (by rw [h1]; simp) h7
  have hFr : ∀ x ∈ Fr, μ1 x = μ0 x := fun x hx => i5.keep x (h6.at_ x hx) (h8 x hx).2
  have h6' := h6.same hFr
  have h1' := hkF.trans h1
  have hkF1 : k ∉ F1 := fun hm => (i5.grow k hm).elim h7 fun e => by rw [h1] at e; cases e
  have hrF1 : ∀ x ∈ Fr, x ∉ F1 := fun x hx hm => (i5.grow x hm).elim (h8 x hx).2 (h6.at_ x hx)
  have hm1 : Mv μ0 μ1 (k :: (Fs ++ Fr)) (k :: (F1 ++ Fr)) := by
    refine (i5.wide (G := k :: (Fs ++ Fr)) fun x hx => by simp [hx]).sub fun x hx => ?_
    simp only [List.mem_cons, List.mem_append] at hx ⊢
    rcases hx with h | h | h
    · exact .inr (.inl h)
    · exact .inl h
    · exact .inr (.inr (.inr h))
  refine CIf.mk (fun e => ?_) (fun e => ?_)
  · have hn : v ∉ K := fun hv => ht.1 e ((h4 v).2 hv)
    have hb : hasB K v = false := by
      cases hb : hasB K v with
      | false => rfl
      | true => exact absurd (hasB_iff.1 hb) hn
    have hnew : newK K v = [v] := by unfold newK; rw [hb]; rfl
    rw [hnew] at hk
    obtain ⟨a, c, rfl, happ⟩ := h6'.app (rowsS_each row)
    refine ⟨_, _, _, rdM_at h1' (by simp), ?_⟩
    simp only [rowsS_len] at happ
    rw [rowsS_len]
    refine happ [pS v] 16 _ rfl rfl (by omega) (by omega) fun b' c' rest μ2 hb' hrest hc' hm2 => ?_
    have nk : b' ≠ k := by
      rintro rfl
      rcases hm2.grow b' (by simp) with h | h
      · exact (h8 b' h).1 rfl
      · rw [h1'] at h; cases h
    have nF : b' ∉ F1 := fun hx => by
      rcases hm2.grow b' (by simp) with h | h
      · exact hrF1 b' h hx
      · exact i1.at_.2 b' hx h
    have hk2 : μ2 k = μ1 k := hm2.keep k (by rw [h1']; simp) fun hx => (h8 k hx).1 rfl
    refine ⟨_, _, hk2.trans h1', by simp, ?_⟩
    have hw : wrL [pP b 0, .raw (.slice a (rowsS row).length c)] (0 + 1) [PV.raw (.slice (some ⟨b', 0, none⟩) (row.length + 1) c')] = [pP b 0, .raw (.slice (some ⟨b', 0, none⟩) (row.length + 1) c')] := by simp [wrL]
    rw [hw]
    have hm2' : Mv μ1 μ2 (k :: (F1 ++ Fr)) (k :: (F1 ++ [b'])) := by
      refine (hm2.wide (G := k :: (F1 ++ Fr)) fun x hx => by simp [hx]).sub fun x hx => ?_
      simp only [List.mem_cons, List.mem_append, List.not_mem_nil, or_false] at hx ⊢
      rcases hx with h | h | h
      · exact .inr (.inl h)
      · exact .inr (.inr (.inl h))
      · exact .inl h
    refine hk _ (k :: (F1 ++ [b'])) ⟨⟨b, L1, _, F1, [b'], Mem.set_same _ _ _, i1.same fun x hx => ?_, i2, fun y => ?_, by rw [e] at i4; simp at i4 ⊢; omega, .inr (.inr ⟨b', c', rest, ?_, rfl, ?_, ?_, ?_⟩), hkF1, fun x hx => ?_, rfl⟩, by simp; omega⟩ (hm0.trans (hm1.trans (hm2'.trans ((Mv.set (.inl (by simp))).sub (by simp)))))
    · rw [Mem.set_ne _ _ (show x ≠ k from fun e => hkF1 (e ▸ hx))]
      exact hm2.keep x (i1.at_.2 x hx) fun hx' => hrF1 x hx' hx
    · rw [i3, h4]; simp [or_comm]
    · simp
    · rw [Mem.set_ne _ _ nk, hb']; simp [rowsS]
    · simpa using hrest
    · simpa using hc'
    · simp at hx; subst hx; exact ⟨nk, nF⟩
  · have hv : v ∈ K := by
      refine Classical.byContradiction fun hn => ?_
      have := ht.2 fun hv => hn ((h4 v).1 hv)
      rw [e] at this; cases this
    have hnew : newK K v = [] := by unfold newK; rw [hasB_iff.2 hv]; rfl
    rw [hnew, List.append_nil, List.append_nil] at hk
    refine hk μ1 (k :: (F1 ++ Fr)) ⟨⟨b, L1, p, F1, Fr, h1', i1, i2, fun y => ?_, ?_, .inr h6', hkF1, fun x hx => ⟨(h8 x hx).1, hrF1 x hx⟩, rfl⟩, hrow⟩ (hm0.trans hm1)
    · rw [i3, h4]; exact ⟨fun h => h.elim (fun e => e ▸ hv) id, .inr⟩
    · rw [e] at i4; simp at i4; omega

theorem cHas {μ : Mem} {k : Nat} {K row : List ByteArray} {F : List Nat} (h : KnIn μ k K row F) (hl : K.length ≤ 100000) (v : ByteArray) {R : PV → Mem → Prop} (hk : R (pB (hasB K v)) μ) : CallP Try.prog 93 [pP k 0, pS v] μ R := by
  obtain ⟨b, L, p, Fs, Fr, h1, h2, h3, h4, h5, h6, h7, h8, rfl⟩ := h.ex
  refine G_shape_known_has.c ?_
  refine ⟨_, rdM_at h1 (by simp), cPlace h2 h3 (by omega) v fun i t hf => ⟨_, _, rfl, ?_⟩⟩
  have : t = hasB K v := by
    have e : t = true ↔ hasB K v = true := by rw [hf.mem cmpS_ok, h4, hasB_iff]
    exact Bool.eq_iff_iff.2 e
  rw [this]; exact hk

theorem cInner {μ : Mem} {k : Nat} {K row : List ByteArray} {F : List Nat} (h : KnIn μ k K row F) {R : PV → Mem → Prop} (hk : ∀ μ' k2 F1 F2, KnIn μ' k K row F1 → KnIn μ' k2 K [] F2 → (∀ x ∈ F2, x ∉ F1) → Mv μ μ' F (F1 ++ F2) → R (pP k2 0) μ') : CallP Try.prog 91 [pP k 0] μ R := by
  have hat := h.at_
  obtain ⟨b, L, p, Fs, Fr, h1, h2, h3, h4, h5, h6, h7, h8, rfl⟩ := h.ex
  refine G_shape_known_inner.c ?_
  refine ⟨_, rdM_at h1 (by simp), cClone h2 fun μ1 b2 hb2 hne i1 i2 i3 => ⟨_, rfl, fun k2 hk2 => ?_⟩⟩
  have hkF : μ1 k = μ k := i3.keep k (by rw [h1]; simp) h7
  have hk1 : μ1 k ≠ none := by rw [hkF, h1]; simp
  have htip : ∀ x ∈ Fr, μ1 x = μ x := fun x hx => i3.keep x (hat x (by simp [hx])) (h8 x hx).2
  have n1 : ∀ x, μ1 x ≠ none → x ≠ k2 := fun x hx e => hx (e ▸ hk2)
  have nb2 : b2 ≠ k := by
    rintro rfl
    rcases hb2 with h | h
    · exact h7 h
    · rw [h1] at h; cases h
  have hbk : b ≠ k := by rintro rfl; exact h7 h2.at_.1
  have ntip : ∀ x ∈ Fr, x ≠ b ∧ x ≠ b2 := fun x hx => ⟨fun e => (h8 x hx).2 (e ▸ h2.at_.1), fun e => by
    subst e
    rcases hb2 with h | h
    · exact (h8 x hx).2 h
    · exact hat x (by simp [hx]) h⟩
  have tip1 : ∀ x ∈ Fr, μ1 x ≠ none := fun x hx => by rw [htip x hx]; exact hat x (by simp [hx])
  refine hk _ k2 (k :: ([b] ++ Fr)) (k2 :: ([b2] ++ [])) ⟨⟨b, L, p, [b], Fr, ?_, i1.same fun x hx => ?_, h3, h4, h5, h6.same fun x hx => ?_, by simp [Ne.symm hbk], fun x hx => ⟨(h8 x hx).1, by simp [(ntip x hx).1]⟩, rfl⟩, h.row⟩ ⟨⟨b2, L, _, [b2], [], Mem.set_same _ _ _, i2.same fun x hx => ?_, h3, h4, h5, .inl ⟨rfl, rfl, rfl⟩, ?_, fun x hx => by simp at hx, rfl⟩, by simp⟩ (fun x hx => ?_) ?_
  · rw [Mem.set_ne _ _ (n1 k hk1), hkF]; exact h1
  · exact Mem.set_ne _ _ (n1 x (i1.at_.2 x hx))
  · rw [Mem.set_ne _ _ (n1 x (tip1 x hx))]; exact htip x hx
  · exact Mem.set_ne _ _ (n1 x (i2.at_.2 x hx))
  · simp only [List.mem_singleton]; rintro rfl; exact i2.at_.2 k2 (by simp) hk2
  · simp only [List.append_nil, List.mem_cons, List.not_mem_nil, or_false] at hx
    intro hx'
    simp only [List.mem_cons, List.mem_append, List.not_mem_nil, or_false] at hx'
    rcases hx with rfl | rfl
    · rcases hx' with e | e | e
      · exact hk1 (e ▸ hk2)
      · exact i1.at_.2 x (by simp [e]) hk2
      · exact tip1 x e hk2
    · rcases hx' with e | e | e
      · exact nb2 e
      · exact hne e
      · exact (ntip x e).2 rfl
  · refine ((i3.wide (G := k :: (Fs ++ Fr)) fun x hx => by simp [hx]).trans (Mv.set (.inr hk2))).sub fun x hx => ?_
    simp only [List.append_nil, List.mem_cons, List.mem_append, List.not_mem_nil, or_false] at hx ⊢
    rcases hx with (rfl | rfl | hx) | rfl | rfl
    · simp
    · simp
    · simp [hx]
    · simp
    · simp

theorem cField {μ : Mem} {k : Nat} {K row : List ByteArray} {F : List Nat} (h : KnIn μ k K row F) (fl : Fl) (ts : List Test) (hl : K.length + ts.length ≤ 100000) {R : PV → Mem → Prop}
    (hok : ∀ μ' F' K' e, metL K ts = some K' → K' = K ++ e → e.length ≤ ts.length → KnIn μ' k K' (row ++ e) F' → Mv μ μ' F F' → R (pB true) μ') (hno : ∀ μ' F', metL K ts = none → Mv μ μ' F F' → R (pB false) μ') : CallP Try.prog 102 [pP k 0, .list 6 fl (ts.map Test.pv)] μ R := by
  refine G_shape_known_field.c ?_
  refine LoopI.each (n := ts.length) (by omega) (fun i u => ∃ Ki e Fi, metL K (ts.take i) = some Ki ∧ Ki = K ++ e ∧ e.length ≤ i ∧ KnIn u k Ki (row ++ e) Fi ∧ Mv μ u F Fi) ⟨K, [], F, by simp [metL], by simp, by simp, by simpa using h, Mv.refl _ _⟩ ?_ ?_
  · rintro i u next hi ⟨Ki, e, Fi, i1, rfl, i2, i3, i4⟩ hnext
    have hlen : (K ++ e).length ≤ 100000 := by rw [List.length_append]; omega
    refine CIf.t (by simpa using hi) ⟨by omega, _, atRow hi, _, _, _, _, _, _, _, rfl, ?_⟩
    have hT := metL_take hi i1
    have same : metT (K ++ e) ts[i] = some (K ++ e) → ∀ u', u' = u → next (IntKind.wrap .i64 ((i : Int) + 1)) u' := fun hm u' hu' => by
      subst hu'
      exact hnext _ ⟨K ++ e, e, Fi, by rw [hT, hm], rfl, by omega, i3, i4⟩
    refine CIf.mk (fun h8 => same (by simp [metT, h8]) _ rfl) (fun h8 => CIf.mk (fun hv => same (by simp [metT, hv]) _ rfl) (fun hv => CIf.mk (fun h1 => ?_) (fun h1 => ?_)))
    · refine cMet i3 hlen ts[i].var fun μ' F' j1 j2 => ⟨rfl, hnext _ ⟨K ++ (e ++ newK (K ++ e) ts[i].var), e ++ newK (K ++ e) ts[i].var, F', ?_, rfl, ?_, by rw [List.append_assoc, List.append_assoc] at j1; exact j1, i4.trans j2⟩⟩
      · rw [hT]; simp [metT, h8, hv, h1]
      · have := newK_len (K ++ e) ts[i].var; rw [List.length_append]; omega
    · refine cHas i3 hlen ts[i].var ⟨_, rfl, CIf.mk (fun hh => ?_) (fun hh => ?_)⟩
      · refine hno u Fi (metL_stop hi i1 ?_) i4
        have hh : hasB (K ++ e) ts[i].var = false := nb hh
        simp [metT, h8, hv, h1, hh]
      · have hh : hasB (K ++ e) ts[i].var = true := nt hh
        exact same (by simp [metT, h8, hv, h1, hh]) _ rfl
  · rintro u next ⟨Ki, e, Fi, i1, rfl, i2, i3, i4⟩
    rw [List.take_length] at i1
    exact CIf.f (by simp) (hok u Fi _ e i1 rfl i2 i3 i4)

theorem cOne {μ : Mem} {k : Nat} {K row : List ByteArray} {F : List Nat} (h : KnIn μ k K row F) (c : Cond) (hc : okC c) (hl : K.length ≤ 10000) {R : PV → Mem → Prop}
    (hok : ∀ μ' F' K' e, metC K c = some K' → K' = K ++ e → e.length ≤ 9 → KnIn μ' k K' (row ++ e) F' → Mv μ μ' F F' → R (pB true) μ') (hno : ∀ μ' F', metC K c = none → Mv μ μ' F F' → R (pB false) μ') : CallP Try.prog 92 [pP k 0, .agg c.pv] μ R := by
  obtain ⟨_, ha, hv, _, _, _⟩ := (okC_eq c).1 hc
  rw [Cond.pv_eq]
  refine G_shape_known_one.c ?_
  have go : ∀ (u : Mem) (e : List ByteArray) (F1 : List Nat), K ++ e = (bif c.goal then K ++ newK K c.id else K) → e.length ≤ 1 → KnIn u k (K ++ e) (row ++ e) F1 → Mv μ u F F1 →
      CallP Try.prog 93 [pP k 0, pS c.id] u fun v_1 u_2 => ∃ x14, v_1 = pB x14 ∧ CIf x14 (CallP Try.prog 102 [pP k 0, .list 6 .sh (c.attr.map Test.pv)] u_2 fun v_2 u_3 => ∃ x19, v_2 = pB x19 ∧ CIf x19 (CallP Try.prog 102 [pP k 0, .list 6 .sh (c.value.map Test.pv)] u_3 fun v_3 u_4 => ∃ x25, v_3 = pB x25 ∧ R (pB x25) u_4) (R (pB false) u_3)) (R (pB false) u_2) := by
    intro u e F1 he hle i1 i2
    have hm : metC K c = (bif hasB (K ++ e) c.id then (metL (K ++ e) c.attr).bind fun K1 => metL K1 c.value else none) := by unfold metC; rw [← he]
    have hlen : (K ++ e).length ≤ 10001 := by rw [List.length_append]; omega
    refine cHas i1 (by omega) c.id ⟨_, rfl, CIf.mk (fun hh => ?_) (fun hh => hno u F1 (by rw [hm, hh]; rfl) i2)⟩
    rw [hh] at hm
    refine cField i1 .sh c.attr (by omega) (fun μ1 F2 K1 e1 j1 j2 j3 j4 j5 => ⟨_, rfl, CIf.t rfl ?_⟩) (fun μ1 F2 j1 j5 => ⟨_, rfl, CIf.f rfl (hno μ1 F2 (by rw [hm, j1]; rfl) (i2.trans j5))⟩)
    subst j2
    refine cField j4 .sh c.value (by rw [List.length_append]; omega) (fun μ2 F3 K2 e2 l1 l2 l3 l4 l5 => ⟨_, rfl, ?_⟩) (fun μ2 F3 l1 l5 => ⟨_, rfl, hno μ2 F3 (by rw [hm]; simp only [cond_true, j1, Option.bind_some]; exact l1) (i2.trans (j5.trans l5))⟩)
    refine hok μ2 F3 K2 (e ++ e1 ++ e2) (by rw [hm]; simp only [cond_true, j1, Option.bind_some]; exact l1) (by rw [l2]; simp) (by simp; omega) ?_ (i2.trans (j5.trans l5))
    simpa using l4
  refine CJoin.of fun J hJ => CIf.mk (fun hg => ?_) (fun hg => ?_)
  · refine cMet h (by omega) c.id fun μ1 F1 j1 j2 => ⟨rfl, hJ _ _ (go μ1 _ F1 (by rw [hg]; rfl) (newK_len K c.id) j1 j2)⟩
  · exact hJ _ _ (go μ [] F (by rw [hg]; simp) (by simp) (by simpa using h) (Mv.refl _ _))

/-- What another known is does not matter for this one. -/
theorem KnIn.beside {μ μ' μ'' : Mem} {k : Nat} {K row : List ByteArray} {F F1 F2 F2' : List Nat} (h : KnIn μ' k K row F1) (hd : ∀ x ∈ F2, x ∉ F1) (hm : Mv μ μ' F (F1 ++ F2)) (hm' : Mv μ' μ'' F2 F2') : KnIn μ'' k K row F1 ∧ Mv μ μ'' F F1 := by
  refine ⟨h.same fun x hx => hm'.keep x (h.at_ x hx) fun hx' => hd x hx' hx, ?_⟩
  refine (hm.trans (hm'.wide (G := F1 ++ F2) fun x hx => by simp [hx])).sub fun x hx => by simp [hx]

theorem cKConds : ∀ (n : Nat) {μ : Mem} {k : Nat} {K row : List ByteArray} {F : List Nat} (h : KnIn μ k K row F) (fl : Fl) (l : List Cond) (at_ : Nat), sizeL l ≤ n → okL l → K.length ≤ 9 * at_ → at_ + sizeL l ≤ 1000 → ∀ {R : PV → Mem → Prop},
    (∀ μ' F' K' e, knowL l at_ K = .ok K' → K' = K ++ e → K'.length ≤ 9 * (at_ + sizeL l) → KnIn μ' k K' (row ++ e) F' → Mv μ μ' F F' → R (.tup [pI ((at_ + sizeL l : Nat) : Int), pB true]) μ') → (∀ μ' F' (e : Nat), knowL l at_ K = .error e → Mv μ μ' F F' → R (.tup [pI (e : Int), pB false]) μ') →
    CallP Try.prog 76 [pP k 0, .list 7 fl (l.map Cond.pv), pI (at_ : Nat)] μ R := by
  intro n
  induction n with
  | zero =>
    intro μ k K row F h fl l at_ hn _ _ _ R hok _
    have : l = [] := by
      cases l with
      | nil => rfl
      | cons c l => simp [sizeL, sizeC_eq] at hn
    subst this
    refine G_shape_known_conds.c ?_
    exact LoopI.each2 (n := 0) (by omega) (fun i x u => x = ((at_ : Nat) : Int) ∧ u = μ) ⟨rfl, rfl⟩ (fun i x u next hi => by omega) (fun x u next hx => by
      obtain ⟨rfl, rfl⟩ := hx
      exact CIf.f (by simp) (hok u F K [] rfl (by simp) (by simp [sizeL]; omega) (by simpa using h) (Mv.refl _ _)))
  | succ n ih =>
    intro μ k K row F h fl l at_ hn hokl hK hsz R hok herr
    refine G_shape_known_conds.c ?_
    have hll := sizeL_len l
    refine LoopI.each2 (n := l.length) (by omega) (fun i x u => x = ((at_ + sizeL (l.take i) : Nat) : Int) ∧ ∃ Ki e Fi, knowL (l.take i) at_ K = .ok Ki ∧ Ki = K ++ e ∧ Ki.length ≤ 9 * (at_ + sizeL (l.take i)) ∧ KnIn u k Ki (row ++ e) Fi ∧ Mv μ u F Fi) ⟨by simp [sizeL], K, [], F, by simp [knowL], by simp, by simp [sizeL]; omega, by simpa using h, Mv.refl _ _⟩ ?_ ?_
    · rintro i _ u next hi ⟨rfl, Ki, e, Fi, i1, rfl, i2, i3, i4⟩ hnext
      have hm := sizeL_mem (List.getElem_mem hi)
      have hs := sizeL_split l (i + 1)
      have hst := sizeL_take hi
      rw [hst] at hs
      have hokc := okL_iff.1 hokl l[i] (List.getElem_mem hi)
      obtain ⟨hkind, _, _, _, _, hokcs⟩ := (okC_eq _).1 hokc
      have hT := knowL_take hi i1
      have hC := knowC_eq l[i] (at_ + sizeL (l.take i)) (K ++ e)
      have hrow : rowM l[i].pv 0 7 = some [pI l[i].kind, pB l[i].goal, pS l[i].id, .list 6 .sh (l[i].attr.map Test.pv), .list 6 .sh (l[i].value.map Test.pv), pB l[i].acc, .list 7 .sh (l[i].conds.map Cond.pv)] := by rw [Cond.pv_eq]; rfl
      refine CIf.t (by simpa using hi) ⟨by omega, _, atRow hi, _, _, _, _, _, _, _, _, _, _, hrow, ?_⟩
      dsimp only
      have hat1 : IntKind.wrap .i64 (((at_ + sizeL (l.take i) : Nat) : Int) + 1) = ((at_ + sizeL (l.take i) + 1 : Nat) : Int) := by rw [wrap_id (by omega) (by omega)]; omega
      refine CJoin.of fun J hJ => CIf.mk (fun hp => ?_) (fun hp => ?_)
      · have hk1 : (l[i].kind == 1) = false := by simpa using hp
        refine cInner i3 fun μ1 k2 F1 F2 j1 j2 j3 j4 => ⟨_, rfl, hJ _ _ (CIf.mk (fun h3 => ?_) (fun h3 => ?_))⟩
        · rw [hat1]
          rw [h3] at hC
          refine ih j2 .sh l[i].conds (at_ + sizeL (l.take i) + 1) (by omega) hokcs (by omega) (by omega) (fun μ2 F3 K2 e2 l1 l2 l3 l4 l5 => ⟨_, _, rfl, CIf.f rfl ?_⟩) (fun μ2 F3 e2 l1 l5 => ⟨_, _, rfl, CIf.t rfl (herr μ2 _ e2 (knowL_stop hi i1 (by rw [hC, l1]; rfl)) (i4.trans (j1.beside j3 j4 l5).2))⟩)
          obtain ⟨b1, b2⟩ := j1.beside j3 j4 l5
          refine hnext _ _ ⟨?_, K ++ e, e, F1, ?_, rfl, ?_, b1, i4.trans b2⟩
          · rw [hst]; congr 1; omega
          · rw [hT, hC, l1]; rfl
          · rw [hst]; omega
        · rw [h3, hk1] at hC
          have hcs : l[i].conds.length = 0 := by
            rcases hkind with h | h
            · rw [h] at h3; simp at h3
            · exact h.2
          have hcs0 : l[i].conds = [] := List.eq_nil_of_length_eq_zero hcs
          have hsz0 : sizeL l[i].conds = 0 := by rw [hcs0]; rfl
          have hpv : PV.agg [pI l[i].kind, pB l[i].goal, pS l[i].id, .list 6 .sh (l[i].attr.map Test.pv), .list 6 .sh (l[i].value.map Test.pv), pB l[i].acc, .list 7 .sh (l[i].conds.map Cond.pv)] = .agg l[i].pv := by rw [Cond.pv_eq]
          rw [hpv]
          refine cOne j2 l[i] hokc (by omega) (fun μ2 F3 K2 e2 l1 l2 l3 l4 l5 => ⟨_, rfl, CIf.f rfl ?_⟩) (fun μ2 F3 l1 l5 => ⟨_, rfl, CIf.t rfl (herr μ2 _ _ (knowL_stop hi i1 (by rw [hC, l1]; rfl)) (i4.trans (j1.beside j3 j4 l5).2))⟩)
          obtain ⟨b1, b2⟩ := j1.beside j3 j4 l5
          rw [hat1]
          refine hnext _ _ ⟨?_, K ++ e, e, F1, ?_, rfl, ?_, b1, i4.trans b2⟩
          · rw [hst]; congr 1; omega
          · rw [hT, hC, l1]; rfl
          · rw [hst]; omega
      · have hk1 : l[i].kind = 1 := by simpa using hp
        have h3 : (l[i].kind == 3) = false := by rw [hk1]; rfl
        refine hJ _ _ (CIf.f h3 ?_)
        rw [h3, show (l[i].kind == 1) = true by rw [hk1]; rfl] at hC
        have hcs : l[i].conds.length = 0 := by
          rcases hkind with h | h
          · rw [hk1] at h; cases h
          · exact h.2
        have hcs0 : l[i].conds = [] := List.eq_nil_of_length_eq_zero hcs
        have hsz0 : sizeL l[i].conds = 0 := by rw [hcs0]; rfl
        have hpv : PV.agg [pI l[i].kind, pB l[i].goal, pS l[i].id, .list 6 .sh (l[i].attr.map Test.pv), .list 6 .sh (l[i].value.map Test.pv), pB l[i].acc, .list 7 .sh (l[i].conds.map Cond.pv)] = .agg l[i].pv := by rw [Cond.pv_eq]
        rw [hpv]
        refine cOne i3 l[i] hokc (by omega) (fun μ2 F3 K2 e2 l1 l2 l3 l4 l5 => ⟨_, rfl, CIf.f rfl ?_⟩) (fun μ2 F3 l1 l5 => ⟨_, rfl, CIf.t rfl (herr μ2 _ _ (knowL_stop hi i1 (by rw [hC, l1]; rfl)) (i4.trans l5))⟩)
        rw [hat1]
        refine hnext _ _ ⟨?_, K2, e ++ e2, F3, ?_, by rw [l2, List.append_assoc], ?_, by rw [← List.append_assoc]; exact l4, i4.trans l5⟩
        · rw [hst]; congr 1; omega
        · rw [hT, hC, l1]; rfl
        · rw [hst, l2, List.length_append]; omega
    · rintro _ u next ⟨rfl, Ki, e, Fi, i1, rfl, i2, i3, i4⟩
      rw [List.take_length] at i1 i2
      refine CIf.f (by simp) ?_
      dsimp only
      rw [List.take_length]
      exact hok u Fi _ e i1 rfl i2 i3 i4

theorem cLacks {μ : Mem} {k : Nat} {K row : List ByteArray} {F : List Nat} (h : KnIn μ k K row F) (hl : K.length ≤ 100000) (a : Atom) {R : PV → Mem → Prop} (hk : R (pB (lackB K a)) μ) : CallP Try.prog 77 [pP k 0, .agg a.pv] μ R := by
  refine G_shape_known_lacks.c ?_
  refine CIf.mk (fun hv => cHas h hl a.var ⟨_, rfl, ?_⟩) (fun hv => ?_)
  · have : lackB K a = !hasB K a.var := by unfold lackB; rw [hv]; rfl
    rw [this] at hk; exact hk
  · have : lackB K a = false := by unfold lackB; rw [hv]; rfl
    rw [this] at hk; exact hk

end Go.Proofs.Ytfjemjnbemdkgaa

/-
  Check, Vars: the program's.
-/
namespace Go.Proofs.Ytfjemjnbemdkgaa
open Go.Eng Go.RowKit
set_option linter.unusedVariables false
set_option linter.unusedSimpArgs false
set_option linter.unnecessarySimpa false

@[reducible] def prodPV (fc fa : Fl) (p : Prod) : PV := .agg [pS p.name, .list 7 fc (p.conds.map Cond.pv), .list 19 fa (p.acts.map Actn.pv)]
@[reducible] def checkPV (x : Int × Int × List ByteArray) : PV := .tup [pI x.1, pI x.2.1, .list 1 .sh (rowsS x.2.2)]

theorem cCheckedR {μ : Mem} (fc fa : Fl) (p : Prod) (hl : lightL p.conds) (hs : sizeL p.conds ≤ 1000000) (ha : p.acts.length ≤ 1000000) {R : PV → Mem → Prop} (hR : ∀ μ' q Fr, RowIn μ' q (checkE p).2.2 Fr → Mv μ μ' [] Fr → R (.tup [pI (checkE p).1, pI (checkE p).2.1, q]) μ') : CallP Try.prog 50 [prodPV fc fa p] μ R := by
  refine G_shape_checked.c ?_
  have nilR : (checkE p).2.2 = [] → ∀ μ' a e, Mv μ μ' [] [] → (checkE p).1 = a → (checkE p).2.1 = e → R (.tup [pI a, pI e, .list 1 .nil []]) μ' := fun h0 μ' a e hm h1 h2 => by
    have := hR μ' (.list 1 .nil []) [] (.inl ⟨rfl, h0, rfl⟩) hm
    rw [h1, h2] at this
    exact this
  refine (cShape .sh .sh p hl hs ha).call ⟨_, _, rfl, CIf.mk (fun h1 => ?_) (fun h1 => ?_)⟩
  · have hE : checkE p = ((shapeE p).1, (shapeE p).2, []) := by unfold checkE; rw [h1]; rfl
    exact nilR (by rw [hE]) _ _ _ (Mv.refl _ _) (by rw [hE]) (by rw [hE])
  have h0 : (shapeE p).2 = 0 := by simpa using h1
  obtain ⟨s1, s2, s3, s4, hok⟩ := shapeE_ok h0
  cases hc : p.conds with
  | nil => rw [hc] at s1; simp [sizeL] at s1
  | cons c cs =>
  refine ⟨by omega, c.pv, rfl, _, by rw [Cond.pv_eq]; rfl, CIf.mk (fun h2 => ?_) (fun h2 => ?_)⟩
  · have hE : checkE p = (0, 9, []) := by unfold checkE; rw [h1, hc]; simp only [cond_false, List.head?_cons, Option.map_some, Option.getD_some, h2, cond_true]
    exact nilR (by rw [hE]) _ _ _ (Mv.refl _ _) (by rw [hE]) (by rw [hE])
  have hE : checkE p = match knowL p.conds 0 [] with
      | .error n => ((n : Int), 6, [])
      | .ok K => match firstL K 0 p.acts with
        | some i => (((sizeL p.conds + i : Nat) : Int), 6, [])
        | none => (-1, 0, K) := by
    unfold checkE
    rw [h1]
    simp only [cond_false]
    rw [show (p.conds.head?.map Cond.kind).getD 0 = c.kind by rw [hc]; rfl, h2]
    rfl
  rw [← hc]
  refine cNew .nil fun μ1 b hb i1 i2 => ⟨_, rfl, fun k hk => ?_⟩
  have hkb : k ≠ b := by rintro rfl; exact i1.at_.2 k (by simp) hk
  have hkn : KnIn (μ1.set k (some (.cells tyKnown [pP b 0, .list 1 .nil []]))) k [] [] (k :: ([b] ++ [])) := by
    refine ⟨⟨b, [], _, [b], [], Mem.set_same _ _ _, i1.same fun x hx => Mem.set_ne _ _ ?_, List.Pairwise.nil, fun y => Iff.rfl, Nat.le_refl _, .inl ⟨rfl, rfl, rfl⟩, by simpa using hkb, fun x hx => by simp at hx, rfl⟩, Nat.le_refl _⟩
    rintro rfl
    simp at hx; exact hkb hx
  have hm0 : Mv μ (μ1.set k (some (.cells tyKnown [pP b 0, .list 1 .nil []]))) [] (k :: ([b] ++ [])) := i2.trans (Mv.set (.inr hk))
  refine CallP.post (cKConds _ hkn fc p.conds 0 (Nat.le_refl _) hok (by simp) (by omega) (fun μ2 F2 K e j1 j2 j3 j4 j5 => ?_) (fun μ2 F2 e j1 j5 => ?_))
  · rw [List.nil_append] at j2 j4
    subst j2
    obtain ⟨μ3, hG, hm3, b', L, q, Fs, Fr, m1, _, _, _, _, m6, _, _, hF⟩ := j4.raw
    refine ⟨μ3, hG, _, _, rfl, CIf.f rfl ?_⟩
    rw [Nat.zero_add] at j3
    have j4' : KnIn μ3 k K K F2 := by
      obtain ⟨μ4, _, _, _⟩ := j4.raw
      exact ⟨⟨b', L, q, Fs, Fr, m1, by assumption, by assumption, by assumption, by assumption, .inr m6, by assumption, by assumption, hF⟩, Nat.le_refl _⟩
    have hmv : Mv μ μ3 [] F2 := hm0.trans (j5.trans hm3)
    have hmv0 : Mv μ μ3 [] [] := hmv.sub (by simp)
    refine LoopI.each (n := p.acts.length) (by omega) (fun i u => u = μ3 ∧ firstL K 0 (p.acts.take i) = none) ⟨rfl, rfl⟩ ?_ ?_
    · rintro i u next hi ⟨rfl, hf⟩ hnext
      have hT := firstL_take hi hf
      refine CIf.t (by simpa using hi) ⟨by omega, _, atRow hi, _, _, _, _, _, _, _, _, _, _, _, _, _, _, _, _, _, _, _, rfl, ?_⟩
      have hit : lackA K p.acts[i] = true → R (.tup [pI (IntKind.wrap .i64 (((0 + sizeL p.conds : Nat) : Int) + (i : Int))), pI 6, .list 1 .nil []]) u := fun hl => by
        have hE' : checkE p = (((sizeL p.conds + i : Nat) : Int), 6, []) := by rw [hE, j1]; simp only [firstL_hit hi hf hl, Nat.zero_add]
        refine nilR (by rw [hE']) _ _ _ hmv0 ?_ (by rw [hE'])
        rw [hE', wrap_id (by omega) (by omega)]; simp only; omega
      have miss : lackA K p.acts[i] = false → next (IntKind.wrap .i64 ((i : Int) + 1)) u := fun hl => hnext _ ⟨rfl, by rw [hT, hl]; rfl⟩
      refine cLacks j4' (by omega) p.acts[i].attr ⟨_, rfl, CIf.mk (fun a1 => ?_) (fun a1 => ?_)⟩
      · exact hit (by unfold lackA; rw [a1]; rfl)
      refine CIf.mk (fun a2 => ?_) (fun a2 => miss (by unfold lackA; rw [a1, a2]; rfl))
      refine cLacks j4' (by omega) p.acts[i].value.a ⟨_, rfl, CIf.mk (fun a3 => ?_) (fun a3 => ?_)⟩
      · exact hit (by unfold lackA; rw [a1, a2, a3]; rfl)
      refine cLacks j4' (by omega) p.acts[i].value.b ⟨_, rfl, CIf.mk (fun a4 => ?_) (fun a4 => ?_)⟩
      · exact hit (by unfold lackA; rw [a1, a2, a3, a4]; rfl)
      · exact miss (by unfold lackA; rw [a1, a2, a3, a4]; rfl)
    · rintro u next ⟨rfl, hf⟩
      rw [List.take_length] at hf
      have hE' : checkE p = (-1, 0, K) := by rw [hE, j1]; simp only [hf]
      obtain ⟨a, c', rfl, _⟩ := m6.app (rowsS_each K)
      refine CIf.f (by simp) ⟨_, _, _, rdM_at m1 (by simp), ?_⟩
      have := hR u _ Fr (by rw [hE']; exact .inr m6) (hmv.sub fun x hx => by rw [hF]; simp [hx])
      rw [hE'] at this
      exact this
  · have hE' : checkE p = ((e : Int), 6, []) := by rw [hE, j1]
    exact ⟨μ2, GU.refl _, _, _, rfl, CIf.t rfl (nilR (by rw [hE']) _ _ _ ((hm0.trans j5).sub (by simp)) (by rw [hE']) (by rw [hE']))⟩

theorem cChecked (fc fa : Fl) (p : Prod) (hl : lightL p.conds) (hs : sizeL p.conds ≤ 1000000) (ha : p.acts.length ≤ 1000000) : Pure Try.prog 50 [prodPV fc fa p] (checkPV (checkE p)) := by
  refine CallP.sealq (cCheckedR fc fa p hl hs ha fun μ' q Fr h hm => ⟨checkPV (checkE p), .tup rfl (fun d hd => ?_) (fun i c d hc hd => ?_), rfl⟩)
  · simp only [List.mem_cons, List.not_mem_nil, or_false] at hd
    rcases hd with rfl | rfl | rfl <;> rfl
  · match i with
    | 0 => simp at hc hd; subst hc hd; exact .same _
    | 1 => simp at hc hd; subst hc hd; exact .same _
    | 2 => simp at hc hd; subst hc hd; exact h.view
    | n + 3 => simp at hc

theorem cCheck (fc fa : Fl) (p : Prod) (hl : lightL p.conds) (hs : sizeL p.conds ≤ 1000000) (ha : p.acts.length ≤ 1000000) : Pure Try.prog 16 [prodPV fc fa p] (.tup [pI (checkE p).1, pI (checkE p).2.1]) := by
  refine PureK.of (G_shape_Check.c ?_)
  exact (cChecked .sh .sh p hl hs ha).call ⟨_, _, _, _, rfl, rfl⟩

theorem cVars (fc fa : Fl) (p : Prod) (hl : lightL p.conds) (hs : sizeL p.conds ≤ 1000000) (ha : p.acts.length ≤ 1000000) : Pure Try.prog 22 [prodPV fc fa p] (.list 1 .sh (rowsS (checkE p).2.2)) := by
  refine PureK.of (G_shape_Vars.c ?_)
  exact (cChecked .sh .sh p hl hs ha).call ⟨_, _, _, _, rfl, rfl⟩

theorem cVarsR {μ : Mem} (fc fa : Fl) (p : Prod) (hl : lightL p.conds) (hs : sizeL p.conds ≤ 1000000) (ha : p.acts.length ≤ 1000000) {R : PV → Mem → Prop} (hR : ∀ μ' q Fr, OwnV tyString 1 μ' q (rowsS (checkE p).2.2) Fr → Mv μ μ' [] Fr → R q μ') : CallP Try.prog 22 [prodPV fc fa p] μ R := by
  refine G_shape_Vars_w.c (CallP.conv (cCheckedR .sh .sh p hl hs ha fun μ' q Fr h hm => ?_))
  rcases h with ⟨rfl, h0, rfl⟩ | h
  · refine ⟨.tup [pI (checkE p).1, pI (checkE p).2.1, .raw (.slice none 0 0)], .tup rfl (fun d hd => ?_) (fun i c d hc hd => ?_), _, _, _, _, _, rfl, hR μ' _ [] (.inl ⟨rfl, by rw [h0]; rfl, rfl⟩) hm⟩
    · simp only [List.mem_cons, List.not_mem_nil, or_false] at hd
      rcases hd with rfl | rfl | rfl <;> rfl
    · match i with
      | 0 => simp at hc hd; subst hc hd; exact .same _
      | 1 => simp at hc hd; subst hc hd; exact .same _
      | 2 => simp at hc hd; subst hc hd; exact .nil 1 []
      | n + 3 => simp at hc
  · obtain ⟨a, c, rfl, _⟩ := h.app (rowsS_each _)
    exact ⟨_, .same _, _, _, _, _, _, rfl, hR μ' _ Fr h hm⟩

end Go.Proofs.Ytfjemjnbemdkgaa
