import Derived.Test.YtdiimonfmdbclaaPvS
import Derived.Test.YtdiimonfmdbclaaDom
/-
  Looking for a place in what rises; putting there. Plain.
-/
namespace Go.Eng
open Go.RowKit
set_option linter.unusedVariables false
set_option linter.unusedSimpArgs false
set_option linter.unnecessarySimpa false

theorem midE {lo hi : Nat} (h : lo < hi) (hn : hi < 4611686018427387904) : IntKind.wrap .i64 ((lo : Int) + IntKind.wrap .i64 (Int.tdiv (IntKind.wrap .i64 ((hi : Int) - (lo : Int))) 2)) = ((lo + (hi - lo) / 2 : Nat) : Int) := by
  have e1 : IntKind.wrap .i64 ((hi : Int) - (lo : Int)) = ((hi - lo : Nat) : Int) := by rw [wrap_id (by omega) (by omega)]; omega
  rw [e1]
  have e2 : Int.tdiv ((hi - lo : Nat) : Int) 2 = (((hi - lo) / 2 : Nat) : Int) := by
    rw [Int.tdiv_eq_ediv_of_nonneg (by omega)]; omega
  rw [e2, wrap_id (x := (((hi - lo) / 2 : Nat) : Int)) (by omega) (by omega), wrap_id (by omega) (by omega)]
  omega

/-- Halving: c k says how the k-th stands to what is looked for. -/
theorem LoopI.bin {body : (Int × Int → Mem → Prop) → Int × Int → Mem → Prop} {u : Mem} {n : Nat} (hn : n < 4611686018427387904) (c : Nat → Int) (A : Mem → Prop) (h0 : A u)
    (m1 : ∀ i j, i < j → j < n → c j ≤ 0 → c i < 0) (m2 : ∀ i j, i < j → j < n → 0 ≤ c i → 0 < c j)
    (hin : ∀ (lo hi mid : Nat) (u : Mem) (next : Int × Int → Mem → Prop), lo < hi → hi ≤ n → mid = lo + (hi - lo) / 2 → mid < n → A u → (c mid < 0 → ∀ u', A u' → next (((mid + 1 : Nat) : Int), (hi : Int)) u') → (0 < c mid → ∀ u', A u' → next ((lo : Int), (mid : Int)) u') → (c mid = 0 → ∀ i, i < mid → c i < 0) → body next ((lo : Int), (hi : Int)) u)
    (hout : ∀ (k : Nat) (u : Mem) (next : Int × Int → Mem → Prop), A u → k ≤ n → (∀ i, i < k → c i < 0) → (∀ i, k ≤ i → i < n → 0 < c i) → body next ((k : Int), (k : Int)) u) : LoopI body (0, (n : Int)) u := by
  refine ⟨fun m s w => ∃ lo hi : Nat, s = ((lo : Int), (hi : Int)) ∧ lo ≤ hi ∧ hi ≤ n ∧ m = hi - lo ∧ A w ∧ (∀ i, i < lo → c i < 0) ∧ (∀ i, hi ≤ i → i < n → 0 < c i), ⟨n, 0, n, rfl, by omega, Nat.le_refl _, by omega, h0, fun i hi => by omega, fun i h1 h2 => by omega⟩, ?_⟩
  rintro m s w ⟨lo, hi, rfl, hle, hhi, rfl, hA, h1, h2⟩
  by_cases hlt : lo < hi
  · refine hin lo hi (lo + (hi - lo) / 2) w _ hlt hhi rfl (by omega) hA (fun hc u' hu => ⟨hi - (lo + (hi - lo) / 2 + 1), by omega, _, hi, rfl, by omega, hhi, rfl, hu, fun i hi' => ?_, h2⟩) (fun hc u' hu => ⟨(lo + (hi - lo) / 2) - lo, by omega, lo, _, rfl, by omega, by omega, rfl, hu, h1, fun i hi1 hi2 => ?_⟩) (fun hc i hi' => m1 i _ hi' (by omega) (by omega))
    · by_cases e : i = lo + (hi - lo) / 2
      · subst e; exact hc
      · exact m1 i (lo + (hi - lo) / 2) (by omega) (by omega) (by omega)
    · by_cases e : i = lo + (hi - lo) / 2
      · subst e; exact hc
      · exact m2 (lo + (hi - lo) / 2) i (by omega) hi2 (by omega)
  · have : lo = hi := by omega
    subst this
    exact hout lo w _ hA hhi h1 h2

/-- A total order, as Compare tells it. -/
structure Cmp {T : Type} (c : T → T → Int) : Prop where
  zero : ∀ a b, c a b = 0 ↔ a = b
  flip : ∀ a b, c a b < 0 ↔ 0 < c b a
  trans : ∀ a b d, c a b < 0 → c b d < 0 → c a d < 0

/-- It rises. -/
def Up {T : Type} (c : T → T → Int) (L : List T) : Prop := L.Pairwise fun a b => c a b < 0

theorem Up.lt {T : Type} {c : T → T → Int} {L : List T} (h : Up c L) {i j : Nat} (hi : i < j) (hj : j < L.length) : c (L[i]'(Nat.lt_trans hi hj)) L[j] < 0 := List.pairwise_iff_getElem.1 h i j _ hj hi

/-- The place of x among what rises, and whether it is there. -/
structure FoundAt {T : Type} (c : T → T → Int) (L : List T) (x : T) (k : Nat) (there : Bool) : Prop where
  le : k ≤ L.length
  low : ∀ (i : Nat) (h : i < L.length), i < k → c L[i] x < 0
  hit : there = true → ∃ h : k < L.length, L[k] = x
  miss : there = false → ∀ (i : Nat) (h : i < L.length), k ≤ i → 0 < c L[i] x

theorem FoundAt.mem {T : Type} {c : T → T → Int} (hc : Cmp c) {L : List T} {x : T} {k : Nat} {there : Bool} (h : FoundAt c L x k there) : there = true ↔ x ∈ L := by
  refine ⟨fun ht => ?_, fun hx => ?_⟩
  · obtain ⟨hk, e⟩ := h.hit ht; rw [← e]; exact List.getElem_mem hk
  · cases there with
    | true => rfl
    | false =>
      obtain ⟨i, hi, e⟩ := List.mem_iff_getElem.1 hx
      have hz : c L[i] x = 0 := (hc.zero _ _).2 e
      by_cases hk : i < k
      · have := h.low i hi hk; omega
      · have := h.miss rfl i hi (by omega); omega

/-- x, put where it belongs. -/
theorem FoundAt.put {T : Type} {c : T → T → Int} (hc : Cmp c) {L : List T} {x : T} {k : Nat} (h : FoundAt c L x k false) (hu : Up c L) : Up c (L.take k ++ x :: L.drop k) := by
  have hu' : L.Pairwise fun a b => c a b < 0 := hu
  rw [← List.take_append_drop k L, List.pairwise_append] at hu'
  refine List.pairwise_append.2 ⟨hu'.1, List.pairwise_cons.2 ⟨fun b hb => ?_, hu'.2.1⟩, fun a ha b hb => ?_⟩
  · obtain ⟨i, hi, e⟩ := List.mem_iff_getElem.1 hb
    rw [List.getElem_drop] at e
    rw [← e]
    exact (hc.flip _ _).2 (h.miss rfl _ _ (by omega))
  · rcases List.mem_cons.1 hb with rfl | hb
    · obtain ⟨i, hi, e⟩ := List.mem_iff_getElem.1 ha
      rw [List.getElem_take] at e
      rw [← e]
      exact h.low _ _ (by simp at hi; omega)
    · exact hu'.2.2 a ha b hb

theorem FoundAt.memPut {T : Type} {L : List T} {x y : T} {k : Nat} : y ∈ L.take k ++ x :: L.drop k ↔ y = x ∨ y ∈ L := by
  rw [List.mem_append, List.mem_cons]
  have e : y ∈ L ↔ y ∈ L.take k ∨ y ∈ L.drop k := by rw [← List.mem_append, List.take_append_drop]
  rw [e]
  constructor
  · rintro (h | h | h)
    · exact .inr (.inl h)
    · exact .inl h
    · exact .inr (.inr h)
  · rintro (h | h | h)
    · exact .inr (.inl h)
    · exact .inl h
    · exact .inr (.inr h)

theorem FoundAt.dropped {T : Type} {c : T → T → Int} (hc : Cmp c) {L : List T} {x y : T} {k : Nat} (h : FoundAt c L x k true) (hu : Up c L) : y ∈ L.eraseIdx k ↔ y ∈ L ∧ y ≠ x := by
  obtain ⟨hk, e⟩ := h.hit rfl
  rw [List.mem_eraseIdx_iff_getElem]
  constructor
  · rintro ⟨i, hi, hne, rfl⟩
    refine ⟨List.getElem_mem _, fun e' => ?_⟩
    have hz : c L[i] L[k] = 0 := (hc.zero _ _).2 (e'.trans e.symm)
    rcases Nat.lt_or_gt_of_ne hne with h1 | h1
    · have := hu.lt h1 hk; omega
    · have := hu.lt h1 hi
      have h2 : c L[k] L[i] = 0 := (hc.zero _ _).2 (e.trans e'.symm)
      omega
  · rintro ⟨hy, hne⟩
    obtain ⟨i, hi, rfl⟩ := List.mem_iff_getElem.1 hy
    exact ⟨i, hi, fun e' => hne (by subst e'; exact e), rfl⟩

theorem Up.mono1 {T : Type} {c : T → T → Int} (hc : Cmp c) {L : List T} (hu : Up c L) {x : T} {i j : Nat} (hi : i < j) (hj : j < L.length) (h : c L[j] x ≤ 0) : c (L[i]'(Nat.lt_trans hi hj)) x < 0 := by
  have h1 := hu.lt hi hj
  by_cases h0 : c L[j] x = 0
  · rw [(hc.zero _ _).1 h0] at h1; exact h1
  · exact hc.trans _ _ _ h1 (by omega)
theorem Up.mono2 {T : Type} {c : T → T → Int} (hc : Cmp c) {L : List T} (hu : Up c L) {x : T} {i j : Nat} (hi : i < j) (hj : j < L.length) (h : 0 ≤ c (L[i]'(Nat.lt_trans hi hj)) x) : 0 < c L[j] x := by
  have h1 := hu.lt hi hj
  by_cases h0 : c (L[i]'(Nat.lt_trans hi hj)) x = 0
  · rw [(hc.zero _ _).1 h0] at h1; exact (hc.flip _ _).1 h1
  · have h2 : c x (L[i]'(Nat.lt_trans hi hj)) < 0 := (hc.flip _ _).2 (by omega)
    exact (hc.flip _ _).1 (hc.trans _ _ _ h2 h1)

/-! ### strings, byte by byte -/
theorem less_irr : ∀ a : List UInt8, Op.bytesLess a a = false
  | [] => rfl
  | x :: a => by simp [Op.bytesLess, less_irr a]
theorem less_trans : ∀ {a b d : List UInt8}, Op.bytesLess a b = true → Op.bytesLess b d = true → Op.bytesLess a d = true
  | [], [], _, h, _ => by simp [Op.bytesLess] at h
  | [], _ :: _, [], _, h => by simp [Op.bytesLess] at h
  | [], _ :: _, _ :: _, _, _ => rfl
  | _ :: _, [], _, h, _ => by simp [Op.bytesLess] at h
  | _ :: _, _ :: _, [], _, h => by simp [Op.bytesLess] at h
  | x :: a, y :: b, z :: d, h, k => by
    simp only [Op.bytesLess, Bool.or_eq_true, Bool.and_eq_true, decide_eq_true_eq, beq_iff_eq] at h k ⊢
    rcases h with h | ⟨rfl, h⟩
    · rcases k with k | ⟨rfl, k⟩
      · exact .inl (UInt8.lt_trans h k)
      · exact .inl h
    · rcases k with k | ⟨rfl, k⟩
      · exact .inl k
      · exact .inr ⟨rfl, less_trans h k⟩
theorem less_total : ∀ a b : List UInt8, Op.bytesLess a b = true ∨ a = b ∨ Op.bytesLess b a = true
  | [], [] => .inr (.inl rfl)
  | [], _ :: _ => .inl rfl
  | _ :: _, [] => .inr (.inr rfl)
  | x :: a, y :: b => by
    simp only [Op.bytesLess, Bool.or_eq_true, Bool.and_eq_true, decide_eq_true_eq, beq_iff_eq, List.cons.injEq]
    rcases UInt8.lt_or_lt_of_ne (a := x) (b := y) |> fun h => (Classical.em (x = y)) with e | e
    · subst e
      rcases less_total a b with h | h | h
      · exact .inl (.inr ⟨rfl, h⟩)
      · exact .inr (.inl ⟨rfl, h⟩)
      · exact .inr (.inr (.inr ⟨rfl, h⟩))
    · rcases UInt8.lt_or_lt_of_ne e with h | h
      · exact .inl (.inl h)
      · exact .inr (.inr (.inl h))

def cmpS (a b : ByteArray) : Int := bif Op.bytesLess a.toList b.toList then -1 else bif !(Op.bytesLess a.toList b.toList || strEq a b) then 1 else 0

theorem cmpS_neg {a b : ByteArray} : cmpS a b < 0 ↔ Op.bytesLess a.toList b.toList = true := by
  unfold cmpS
  cases Op.bytesLess a.toList b.toList <;> cases strEq a b <;> simp
theorem cmpS_zero {a b : ByteArray} : cmpS a b = 0 ↔ a = b := by
  unfold cmpS
  rw [← strEq_iff]
  cases h : Op.bytesLess a.toList b.toList
  · cases strEq a b <;> simp
  · have : strEq a b = false := by
      cases hs : strEq a b with
      | false => rfl
      | true => rw [strEq_iff.1 hs, less_irr] at h; cases h
    simp [this]
theorem cmpS_pos {a b : ByteArray} : 0 < cmpS a b ↔ Op.bytesLess b.toList a.toList = true := by
  have e : 0 < cmpS a b ↔ ¬ cmpS a b < 0 ∧ ¬ cmpS a b = 0 := by omega
  rw [e, cmpS_neg, cmpS_zero]
  constructor
  · rintro ⟨h1, h2⟩
    rcases less_total a.toList b.toList with h | h | h
    · exact absurd h h1
    · exact absurd (strEq_iff.1 (by unfold strEq; rw [h]; simp)) h2
    · exact h
  · intro h
    refine ⟨fun h1 => ?_, fun h1 => ?_⟩
    · have := less_trans h h1; rw [less_irr] at this; cases this
    · rw [h1, less_irr] at h; cases h
theorem cmpS_ok : Cmp cmpS := ⟨fun a b => cmpS_zero, fun a b => by rw [cmpS_neg, cmpS_pos], fun a b d h1 h2 => cmpS_neg.2 (less_trans (cmpS_neg.1 h1) (cmpS_neg.1 h2))⟩

end Go.Eng
