import Derived.Test.YtfjemjnbemdkgaaV6
import Derived.Test.YtfjemjnbemdkgaaDom
/-
  Symbols: contracts of package sym, and of the document's own.
-/
namespace Go.Proofs.Ytfjemjnbemdkgaa
open Go.Eng Go.RowKit
set_option linter.unusedVariables false
set_option linter.unusedSimpArgs false
set_option linter.unnecessarySimpa false

@[reducible] def p8 (c : UInt8) : PV := .raw (.int .u8 ((c.toNat : Nat) : Int))

def smallB (c : UInt8) : Bool := decide ((c.toNat : Int) ≥ 97) && decide ((c.toNat : Int) ≤ 122)
def digitB (c : UInt8) : Bool := decide ((c.toNat : Int) ≥ 48) && decide ((c.toNat : Int) ≤ 57)
def greatB (c : UInt8) : Bool := decide ((c.toNat : Int) ≥ 65) && decide ((c.toNat : Int) ≤ 90)
def partB (c : UInt8) : Bool := smallB c || (digitB c || (((c.toNat : Int) == 45) || ((c.toNat : Int) == 95)))

/-- A word. -/
def wordL (l : List UInt8) : Bool := decide (1 ≤ l.length) && (decide (l.length ≤ 32) && ((match l with | c :: _ => smallB c | [] => false) && l.all partB))
def wordB (t : ByteArray) : Bool := wordL (bL t)

def validB (s : Sym) : Bool :=
  bif s.k == 1 then (match bL s.t with | [c] => greatB c && (decide (s.n ≥ 1) && decide (s.n ≤ 1048576)) | _ => false) else
  bif s.k == 2 then strEq s.t ⟨#[]⟩ && (decide (s.n ≥ -2147483647) && decide (s.n ≤ 2147483647)) else
  bif s.k == 3 then (s.n == 0) && wordB s.t else false

theorem cSmall (c : UInt8) : Pure Try.prog 64 [p8 c] (pB (smallB c)) := by
  refine PureK.of (G_sym_small.c ?_)
  refine CIf.mk (fun h => ?_) (fun h => ?_) <;> simp_all [smallB, wk, wk1] <;> omega
theorem cDigit (c : UInt8) : Pure Try.prog 65 [p8 c] (pB (digitB c)) := by
  refine PureK.of (G_sym_digit.c ?_)
  refine CIf.mk (fun h => ?_) (fun h => ?_) <;> simp_all [digitB, wk, wk1] <;> omega
theorem cGreat (c : UInt8) : Pure Try.prog 94 [p8 c] (pB (greatB c)) := by
  refine PureK.of (G_sym_great.c ?_)
  refine CIf.mk (fun h => ?_) (fun h => ?_) <;> simp_all [greatB, wk, wk1] <;> omega
theorem cPart (c : UInt8) : Pure Try.prog 71 [p8 c] (pB (partB c)) := by
  refine PureK.of (G_ponderref04_Part.c ?_)
  repeat' (refine CIf.mk (fun h => ?_) (fun h => ?_))
  all_goals (simp only [wk, wk1, PV.raw.injEq, Value.bool.injEq, partB, smallB, digitB]; grind)

theorem wordL_head {c : UInt8} {l : List UInt8} (h1 : (c :: l).length ≤ 32) (h2 : smallB c = true) : wordL (c :: l) = l.all partB := by
  simp only [wordL, List.length_cons] at *
  have hp : partB c = true := by simp [partB, h2]
  simp [h2, hp]; omega

theorem cWord (t : ByteArray) : Pure Try.prog 38 [pS t] (pB (wordB t)) := by
  refine PureK.of (G_sym_Word.c ?_)
  have hlen := bL_len t
  unfold wordB
  generalize hL : bL t = L at hlen
  refine CIf.mk (fun h => ?_) (fun h => CIf.mk (fun h2 => ?_) (fun h2 => ?_))
  · have : L = [] := List.eq_nil_of_length_eq_zero (by simp at h; omega)
    subst this; rfl
  · have : ¬ L.length ≤ 32 := by simp at h2; omega
    simp [wordL, this, wk, wk1]
  · have h1 : 1 ≤ t.size := by simp at h; omega
    have h3 : L.length ≤ 32 := by simp at h2; omega
    have hat : ∀ k (hk : k < L.length), t[Int.toNat (k : Int)]? = some L[k] := fun k hk => by subst hL; exact byteAt (by omega)
    obtain ⟨c, l, rfl⟩ : ∃ c l, L = c :: l := by
      cases L with
      | nil => simp at hlen; omega
      | cons c l => exact ⟨c, l, rfl⟩
    refine ⟨by omega, c, hat 0 (by simp), (cSmall c).call ⟨_, rfl, CIf.mk (fun h4 => ?_) (fun h4 => ?_)⟩⟩
    · have h4 : smallB c = false := by simpa using h4
      simp [wordL, h4, wk, wk1]
    · have h4 : smallB c = true := by simpa using h4
      rw [wordL_head h3 h4]
      refine LoopI.from (s := 1) (n := t.size) h1 (by omega) (fun k u => (l.take (k - 1)).all partB = true) (by simp) ?_ ?_
      · intro k u next hk1 hk hg hnext
        have hk' : k < (c :: l).length := by omega
        have hkl : k - 1 < l.length := by simp at hk'; omega
        have hck : (c :: l)[k] = l[k - 1] := by
          cases k with
          | zero => omega
          | succ k => simp
        have hx := hat k hk'
        rw [hck] at hx
        have go : partB l[k - 1] = true → ∀ u', next (IntKind.wrap .i64 ((k : Int) + 1)) u' := fun hp u' => hnext u' (by
          have : k + 1 - 1 = k - 1 + 1 := by omega
          rw [this, allTake hkl hg]; exact hp)
        have stop : partB l[k - 1] = false → wk (pB false) = pB (l.all partB) := fun hp => by rw [allMiss hkl hp]; rfl
        refine CIf.t (by simpa using hk) ⟨by omega, _, hx, (cSmall _).call ⟨_, rfl, CIf.mk (fun a1 => ?_) (fun a1 => go ?_ _)⟩⟩
        · refine ⟨by omega, _, hx, (cDigit _).call ⟨_, rfl, CIf.mk (fun a2 => ?_) (fun a2 => go ?_ _)⟩⟩
          · refine ⟨by omega, _, hx, CIf.mk (fun a3 => ⟨by omega, _, hx, CIf.mk (fun a4 => stop ?_) (fun a4 => go ?_ _)⟩) (fun a3 => go ?_ _)⟩ <;> simp_all [partB]
          · simp_all [partB]
        · simp_all [partB]
      · intro u next hg
        refine CIf.f (by simp) ?_
        have : t.size - 1 = l.length := by simp at hlen; omega
        rw [this, List.take_length] at hg
        rw [hg]; rfl

theorem cRefWord (t : ByteArray) : Pure Try.prog 44 [pS t] (pB (wordB t)) := by
  refine PureK.of (G_ponderref04_Word.c ?_)
  have hlen := bL_len t
  unfold wordB
  generalize hL : bL t = L at hlen
  refine CIf.mk (fun h => ?_) (fun h => CIf.mk (fun h2 => ?_) (fun h2 => ?_))
  · have : L = [] := List.eq_nil_of_length_eq_zero (by simp at h; omega)
    subst this; rfl
  · have : ¬ L.length ≤ 32 := by simp at h2; omega
    simp [wordL, this, wk, wk1]
  · have h1 : 1 ≤ t.size := by simp at h; omega
    have h3 : L.length ≤ 32 := by simp at h2; omega
    have hat : ∀ k (hk : k < L.length), t[Int.toNat (k : Int)]? = some L[k] := fun k hk => by subst hL; exact byteAt (by omega)
    obtain ⟨c, l, rfl⟩ : ∃ c l, L = c :: l := by
      cases L with
      | nil => simp at hlen; omega
      | cons c l => exact ⟨c, l, rfl⟩
    refine ⟨by omega, c, hat 0 (by simp), CIf.mk (fun h4 => ?_) (fun h4 => ⟨by omega, c, hat 0 (by simp), CIf.mk (fun h5 => ?_) (fun h5 => ?_)⟩)⟩
    · have : smallB c = false := by simp at h4; simp [smallB]; omega
      simp [wordL, this, wk, wk1]
    · have : smallB c = false := by simp at h5; simp [smallB]; omega
      simp [wordL, this, wk, wk1]
    · have hs : smallB c = true := by simp at h4 h5; simp [smallB]; omega
      have hw : wordL (c :: l) = (c :: l).all partB := by
        simp only [List.length_cons] at h3
        simp [wordL, hs]; omega
      rw [hw]
      refine LoopI.each (n := t.size) (by omega) (fun k u => ((c :: l).take k).all partB = true) (by simp) ?_ ?_
      · intro k u next hk hg hnext
        have hk' : k < (c :: l).length := by omega
        refine CIf.t (by simpa using hk) ⟨by omega, _, hat k hk', (cPart _).call ⟨_, rfl, CIf.mk (fun a1 => ?_) (fun a1 => hnext _ ?_)⟩⟩
        · rw [allMiss hk' (by simpa using a1)]; rfl
        · rw [allTake hk' hg]; simpa using a1
      · intro u next hg
        refine CIf.f (by simp) ?_
        rw [← hlen, List.take_length] at hg
        rw [hg]; rfl

theorem oneByte {t : ByteArray} : ((((t.size : Nat) : Int) == 1) = true ↔ ∃ c, bL t = [c]) := by
  have hlen := bL_len t
  constructor
  · intro h
    have h1 : (bL t).length = 1 := by simp at h; omega
    exact List.length_eq_one_iff.1 h1
  · rintro ⟨c, hc⟩
    rw [hc] at hlen
    simp at hlen ⊢; omega

theorem cValid (s : Sym) : Pure Try.prog 83 [.agg s.pv] (pB (validB s)) := by
  refine PureK.of (G_sym_Valid.c ?_)
  refine CIf.mk (fun h => ?_) (fun h => CIf.mk (fun h2 => ?_) (fun h2 => CIf.mk (fun h3 => ?_) (fun h3 => ?_)))
  · refine CIf.mk (fun a => ?_) (fun a => ?_)
    · obtain ⟨c, hc⟩ := oneByte.1 a
      have hat : s.t[Int.toNat 0]? = some c := by
        have := byteAt (t := s.t) (k := 0) (by have := bL_len s.t; rw [hc] at this; simp at this; omega)
        simpa [hc] using this
      refine ⟨by omega, c, hat, (cGreat c).call ⟨_, rfl, CIf.mk (fun b => CIf.mk (fun d => ?_) (fun d => ?_)) (fun b => ?_)⟩⟩ <;> simp_all [validB, wk, wk1] <;> omega
    · have : ∀ c, bL s.t ≠ [c] := fun c hc => by rw [oneByte.2 ⟨c, hc⟩] at a; cases a
      have hv : validB s = false := by
        simp only [validB, h, cond_true]
        all_goals (split <;> first | rfl | (rename_i c hc; exact absurd hc (this c)))
      rw [hv]; rfl
  · refine CIf.mk (fun a => CIf.mk (fun b => ?_) (fun b => ?_)) (fun a => ?_) <;> simp_all [validB, wk, wk1] <;> omega
  · refine CIf.mk (fun a => (cWord s.t).call ⟨_, rfl, ?_⟩) (fun a => ?_) <;> simp_all [validB, wk, wk1] <;> omega
  · simp_all [validB, wk, wk1]

theorem cRefValid (s : Sym) : Pure Try.prog 96 [.agg s.pv] (pB (validB s)) := by
  refine PureK.of (G_ponderref04_Valid.c ?_)
  refine CIf.mk (fun h => ?_) (fun h => CIf.mk (fun h2 => ?_) (fun h2 => CIf.mk (fun h3 => ?_) (fun h3 => ?_)))
  · refine CIf.mk (fun a => ?_) (fun a => ?_)
    · obtain ⟨c, hc⟩ := oneByte.1 a
      have hat : s.t[Int.toNat 0]? = some c := by
        have := byteAt (t := s.t) (k := 0) (by have := bL_len s.t; rw [hc] at this; simp at this; omega)
        simpa [hc] using this
      refine ⟨by omega, c, hat, CIf.mk (fun b => ⟨by omega, c, hat, CIf.mk (fun b2 => CIf.mk (fun d => ?_) (fun d => ?_)) (fun b2 => ?_)⟩) (fun b => ?_)⟩ <;> simp_all [validB, greatB, wk, wk1] <;> omega
    · have : ∀ c, bL s.t ≠ [c] := fun c hc => by rw [oneByte.2 ⟨c, hc⟩] at a; cases a
      have hv : validB s = false := by
        simp only [validB, h, cond_true]
        all_goals (split <;> first | rfl | (rename_i c hc; exact absurd hc (this c)))
      rw [hv]; rfl
  · refine CIf.mk (fun a => CIf.mk (fun b => ?_) (fun b => ?_)) (fun a => ?_) <;> simp_all [validB, wk, wk1] <;> omega
  · refine CIf.mk (fun a => (cRefWord s.t).call ⟨_, rfl, ?_⟩) (fun a => ?_) <;> simp_all [validB, wk, wk1] <;> omega
  · simp_all [validB, wk, wk1]

/-- A right constant. -/
def constB (s : Sym) : Bool := (s.k != 1) && validB s

theorem cRefConst (s : Sym) : Pure Try.prog 88 [.agg s.pv] (pB (constB s)) := by
  refine PureK.of (G_ponderref04_Const.c ?_)
  refine (cRefValid s).call ⟨_, rfl, CIf.mk (fun a => ?_) (fun a => ?_)⟩ <;> simp_all [constB, wk, wk1]

end Go.Proofs.Ytfjemjnbemdkgaa
