import Derived.Test.YtdiimonfmdbclaaPvT
import Derived.Test.YtdiimonfmdbclaaPvW
/-
  What rises by a key: plain. And how a set lies in memory, as one of its parts.
-/
namespace Go.Eng
open Go.RowKit
set_option linter.unusedVariables false
set_option linter.unusedSimpArgs false
set_option linter.unnecessarySimpa false

section
variable {T κ : Type} (ck : κ → κ → Int) (key : T → κ)

/-- It rises by its keys. -/
def UpK (L : List T) : Prop := L.Pairwise fun a b => ck (key a) (key b) < 0
def ltK (k : κ) (y : T) : Bool := decide (ck (key y) k < 0)
def gtK (k : κ) (y : T) : Bool := decide (0 < ck (key y) k)
def eqK (k : κ) (y : T) : Bool := decide (ck (key y) k = 0)
def getK (k : κ) (L : List T) : Option T := L.find? (eqK ck key k)
def posK (k : κ) (L : List T) : Nat := (L.filter (ltK ck key k)).length
def insK (x : T) (L : List T) : List T := L.filter (ltK ck key (key x)) ++ x :: L.filter (gtK ck key (key x))
def delK (k : κ) (L : List T) : List T := L.filter fun y => !eqK ck key k y
/-- x is there, and nothing else turned. -/
def putK (x : T) (L : List T) : List T := if (getK ck key (key x) L).isSome then L else insK ck key x L
end

section
variable {T κ : Type} {ck : κ → κ → Int} {key : T → κ}

theorem Cmp.self (hc : Cmp ck) (a : κ) : ck a a = 0 := (hc.zero a a).2 rfl

theorem UpK.up {L : List T} (h : UpK ck key L) : Up ck (L.map key) := by
  unfold Up; rw [List.pairwise_map]; exact h

theorem filter_take {α : Type} {p : α → Bool} {L : List α} {k : Nat} (hk : k ≤ L.length) (h1 : ∀ (i : Nat) (h : i < L.length), i < k → p L[i] = true) (h2 : ∀ (i : Nat) (h : i < L.length), k ≤ i → p L[i] = false) : L.filter p = L.take k := by
  have e := List.take_append_drop k L
  rw [← e, List.filter_append]
  rw [List.filter_eq_self.2 fun x hx => ?_, List.filter_eq_nil_iff.2 fun x hx => ?_]
  · simp [Nat.min_eq_left hk]
  · obtain ⟨i, hi, rfl⟩ := List.mem_iff_getElem.1 hx
    rw [List.getElem_drop]
    simp only [List.length_drop] at hi
    simp [h2 (k + i) (by omega) (by omega)]
  · obtain ⟨i, hi, rfl⟩ := List.mem_iff_getElem.1 hx
    rw [List.getElem_take]
    simp only [List.length_take] at hi
    exact h1 i (by omega) (by omega)

theorem filter_drop {α : Type} {p : α → Bool} {L : List α} {k : Nat} (hk : k ≤ L.length) (h1 : ∀ (i : Nat) (h : i < L.length), i < k → p L[i] = false) (h2 : ∀ (i : Nat) (h : i < L.length), k ≤ i → p L[i] = true) : L.filter p = L.drop k := by
  have e := List.take_append_drop k L
  rw [← e, List.filter_append]
  rw [List.filter_eq_nil_iff.2 fun x hx => ?_, List.filter_eq_self.2 fun x hx => ?_]
  · simp [Nat.min_eq_left hk]
  · obtain ⟨i, hi, rfl⟩ := List.mem_iff_getElem.1 hx
    rw [List.getElem_drop]
    simp only [List.length_drop] at hi
    exact h2 (k + i) (by omega) (by omega)
  · obtain ⟨i, hi, rfl⟩ := List.mem_iff_getElem.1 hx
    rw [List.getElem_take]
    simp only [List.length_take] at hi
    simp [h1 i (by omega) (by omega)]

section
variable {L : List T} {x : κ} {k : Nat}

theorem FoundAt.lowK {there : Bool} (h : FoundAt ck (L.map key) x k there) (i : Nat) (hi : i < L.length) (hik : i < k) : ck (key L[i]) x < 0 := by
  have := h.low i (by simpa using hi) hik
  simpa using this
theorem FoundAt.leK {there : Bool} (h : FoundAt ck (L.map key) x k there) : k ≤ L.length := by simpa using h.le
theorem FoundAt.missK (h : FoundAt ck (L.map key) x k false) (i : Nat) (hi : i < L.length) (hik : k ≤ i) : 0 < ck (key L[i]) x := by
  have := h.miss rfl i (by simpa using hi) hik
  simpa using this
theorem FoundAt.hitK (h : FoundAt ck (L.map key) x k true) : ∃ hk : k < L.length, key L[k] = x := by
  obtain ⟨h1, h2⟩ := h.hit rfl
  exact ⟨by simpa using h1, by simpa using h2⟩

theorem FoundAt.pos {there : Bool} (hc : Cmp ck) (h : FoundAt ck (L.map key) x k there) (hu : UpK ck key L) : k = posK ck key x L := by
  unfold posK
  rw [filter_take (k := k) h.leK (fun i hi hik => ?_) (fun i hi hik => ?_)]
  · simp [h.leK]
  · have := h.lowK i hi hik; simp [ltK]; omega
  · cases there with
    | false => have := h.missK i hi hik; simp [ltK]; omega
    | true =>
      obtain ⟨hk, e⟩ := h.hitK
      by_cases hik' : i = k
      · subst hik'; simp [ltK, e, hc.self]
      · have h1 := hu.up.lt (i := k) (j := i) (by omega) (by simpa using hi)
        simp only [List.getElem_map] at h1
        rw [e] at h1
        have := (hc.flip _ _).1 h1
        simp [ltK]; omega

theorem FoundAt.none (hc : Cmp ck) (h : FoundAt ck (L.map key) x k false) : getK ck key x L = Option.none := by
  unfold getK
  rw [List.find?_eq_none]
  intro y hy
  obtain ⟨i, hi, rfl⟩ := List.mem_iff_getElem.1 hy
  by_cases hik : i < k
  · have := h.lowK i hi hik; simp [eqK]; omega
  · have := h.missK i hi (by omega); simp [eqK]; omega

theorem getK_at (hc : Cmp ck) (hu : UpK ck key L) (hk : k < L.length) (e : key L[k] = x) : getK ck key x L = some L[k] := by
  unfold getK
  rw [List.find?_eq_some_iff_getElem]
  refine ⟨by simp [eqK, e, hc.self], k, hk, rfl, fun j hj => ?_⟩
  have h1 := hu.up.lt (i := j) (j := k) hj (by simpa using hk)
  simp only [List.getElem_map] at h1
  rw [e] at h1
  simp [eqK]; omega

theorem FoundAt.some (hc : Cmp ck) (h : FoundAt ck (L.map key) x k true) (hu : UpK ck key L) : ∃ hk : k < L.length, getK ck key x L = Option.some L[k] := by
  obtain ⟨hk, e⟩ := h.hitK
  exact ⟨hk, getK_at hc hu hk e⟩

theorem FoundAt.isSome {there : Bool} (hc : Cmp ck) (h : FoundAt ck (L.map key) x k there) (hu : UpK ck key L) : there = (getK ck key x L).isSome := by
  cases there with
  | false => rw [h.none hc]; rfl
  | true => obtain ⟨_, e⟩ := h.some hc hu; rw [e]; rfl

theorem FoundAt.ins (hc : Cmp ck) {y : T} (h : FoundAt ck (L.map key) (key y) k false) : L.take k ++ y :: L.drop k = insK ck key y L := by
  unfold insK
  rw [filter_take (k := k) h.leK (fun i hi hik => ?_) (fun i hi hik => ?_), filter_drop (k := k) h.leK (fun i hi hik => ?_) (fun i hi hik => ?_)]
  · have := h.lowK i hi hik; simp [gtK]; omega
  · have := h.missK i hi hik; simp [gtK]; omega
  · have := h.lowK i hi hik; simp [ltK]; omega
  · have := h.missK i hi hik; simp [ltK]; omega

theorem FoundAt.del (hc : Cmp ck) (h : FoundAt ck (L.map key) x k true) (hu : UpK ck key L) : L.eraseIdx k = delK ck key x L := by
  obtain ⟨hk, e⟩ := h.hitK
  have e1 := List.take_append_drop k L
  have e2 : L.drop k = L[k] :: L.drop (k + 1) := List.drop_eq_getElem_cons hk
  rw [List.eraseIdx_eq_take_drop_succ]
  unfold delK
  conv => rhs; rw [← e1, e2]
  rw [List.filter_append, List.filter_cons]
  have h0 : eqK ck key x L[k] = true := by simp [eqK, e, hc.self]
  simp only [h0, Bool.not_true, Bool.false_eq_true, if_false]
  rw [List.filter_eq_self.2 fun z hz => ?_, List.filter_eq_self.2 fun z hz => ?_]
  · obtain ⟨i, hi, rfl⟩ := List.mem_iff_getElem.1 hz
    rw [List.getElem_drop]
    simp only [List.length_drop] at hi
    have h1 := hu.up.lt (i := k) (j := k + 1 + i) (by omega) (by simp; omega)
    simp only [List.getElem_map] at h1
    rw [e] at h1
    have := (hc.flip _ _).1 h1
    simp [eqK]; omega
  · obtain ⟨i, hi, rfl⟩ := List.mem_iff_getElem.1 hz
    rw [List.getElem_take]
    simp only [List.length_take] at hi
    have := h.lowK i (by omega) (by omega)
    simp [eqK]; omega
end

theorem mem_insK (hc : Cmp ck) {x y : T} {L : List T} : y ∈ insK ck key x L ↔ y = x ∨ (y ∈ L ∧ key y ≠ key x) := by
  unfold insK
  simp only [List.mem_append, List.mem_cons, List.mem_filter, ltK, gtK, decide_eq_true_eq]
  have h0 : key y = key x ↔ ck (key y) (key x) = 0 := (hc.zero _ _).symm
  constructor
  · rintro (⟨h, h1⟩ | h | ⟨h, h1⟩)
    · exact .inr ⟨h, fun e => by rw [h0] at e; omega⟩
    · exact .inl h
    · exact .inr ⟨h, fun e => by rw [h0] at e; omega⟩
  · rintro (h | ⟨h, h1⟩)
    · exact .inr (.inl h)
    · rw [ne_eq, h0] at h1
      by_cases h2 : ck (key y) (key x) < 0
      · exact .inl ⟨h, h2⟩
      · exact .inr (.inr ⟨h, by omega⟩)
theorem mem_delK (hc : Cmp ck) {k : κ} {y : T} {L : List T} : y ∈ delK ck key k L ↔ y ∈ L ∧ key y ≠ k := by
  unfold delK
  simp only [List.mem_filter, eqK, Bool.not_eq_true', decide_eq_false_iff_not, hc.zero, ne_eq]

theorem UpK.filter {L : List T} (h : UpK ck key L) (p : T → Bool) : UpK ck key (L.filter p) := List.Pairwise.filter _ h
theorem UpK.ins (hc : Cmp ck) {L : List T} (h : UpK ck key L) (x : T) : UpK ck key (insK ck key x L) := by
  unfold insK UpK
  rw [List.pairwise_append, List.pairwise_cons]
  refine ⟨h.filter _, ⟨fun y hy => ?_, h.filter _⟩, fun y hy z hz => ?_⟩
  · simp only [List.mem_filter, gtK, decide_eq_true_eq] at hy
    exact (hc.flip _ _).2 hy.2
  · simp only [List.mem_filter, ltK, decide_eq_true_eq] at hy
    rcases List.mem_cons.1 hz with rfl | hz
    · exact hy.2
    · simp only [List.mem_filter, gtK, decide_eq_true_eq] at hz
      exact hc.trans _ _ _ hy.2 ((hc.flip _ _).2 hz.2)
theorem UpK.del {L : List T} (h : UpK ck key L) (k : κ) : UpK ck key (delK ck key k L) := h.filter _
theorem UpK.put (hc : Cmp ck) {L : List T} (h : UpK ck key L) (x : T) : UpK ck key (putK ck key x L) := by
  unfold putK; split
  · exact h
  · exact h.ins hc x

theorem UpK.inj (hc : Cmp ck) {L : List T} (h : UpK ck key L) {a b : T} (ha : a ∈ L) (hb : b ∈ L) (e : key a = key b) : a = b := by
  obtain ⟨i, hi, rfl⟩ := List.mem_iff_getElem.1 ha
  obtain ⟨j, hj, rfl⟩ := List.mem_iff_getElem.1 hb
  rcases Nat.lt_trichotomy i j with hl | rfl | hl
  · have := List.pairwise_iff_getElem.1 h i j hi hj hl
    rw [e, hc.self] at this; omega
  · rfl
  · have := List.pairwise_iff_getElem.1 h j i hj hi hl
    rw [e, hc.self] at this; omega

theorem getK_iff (hc : Cmp ck) {L : List T} (h : UpK ck key L) {k : κ} {x : T} : getK ck key k L = some x ↔ x ∈ L ∧ key x = k := by
  constructor
  · intro e
    have h1 := List.mem_of_find?_eq_some e
    have h2 := List.find?_some e
    exact ⟨h1, (hc.zero _ _).1 (by simpa [eqK] using h2)⟩
  · rintro ⟨hx, e⟩
    obtain ⟨i, hi, rfl⟩ := List.mem_iff_getElem.1 hx
    exact getK_at hc h hi e
theorem getK_none (hc : Cmp ck) {L : List T} {k : κ} : getK ck key k L = none ↔ ∀ x ∈ L, key x ≠ k := by
  unfold getK
  rw [List.find?_eq_none]
  simp only [eqK, decide_eq_true_eq, hc.zero, ne_eq]

/-- The same members in the same order. -/
theorem UpK.ext (hc : Cmp ck) : ∀ {L L' : List T}, UpK ck key L → UpK ck key L' → (∀ x, x ∈ L ↔ x ∈ L') → L = L'
  | [], [], _, _, _ => rfl
  | [], y :: L', _, _, h => absurd ((h y).2 (by simp)) (by simp)
  | x :: L, [], _, _, h => absurd ((h x).1 (by simp)) (by simp)
  | x :: L, y :: L', h1, h2, h => by
    have h1' := List.pairwise_cons.1 h1
    have h2' := List.pairwise_cons.1 h2
    have exy : x = y := by
      rcases List.mem_cons.1 ((h x).1 (by simp)) with e | hx
      · exact e
      · rcases List.mem_cons.1 ((h y).2 (by simp)) with e | hy
        · exact e.symm
        · have a1 := h2'.1 x hx
          have a2 := h1'.1 y hy
          have := (hc.flip _ _).1 a1
          omega
    subst exy
    congr 1
    refine UpK.ext hc h1'.2 h2'.2 fun z => ?_
    have hz := h z
    simp only [List.mem_cons] at hz
    constructor
    · intro hm
      rcases hz.1 (.inr hm) with e | hm'
      · subst e
        have := h1'.1 z hm
        rw [hc.self] at this; omega
      · exact hm'
    · intro hm
      rcases hz.2 (.inr hm) with e | hm'
      · subst e
        have := h2'.1 z hm
        rw [hc.self] at this; omega
      · exact hm'

theorem insK_len {x : T} {L : List T} : (insK ck key x L).length ≤ L.length + 1 := by
  have h : ∀ M : List T, (M.filter (ltK ck key (key x))).length + (M.filter (gtK ck key (key x))).length ≤ M.length := by
    intro M
    induction M with
    | nil => simp
    | cons y M ih =>
      simp only [List.filter_cons]
      by_cases h1 : ltK ck key (key x) y = true
      · have h2 : gtK ck key (key x) y = false := by
          simp only [ltK, decide_eq_true_eq] at h1; simp [gtK]; omega
        simp only [h1, h2, if_true, List.length_cons]; simp; omega
      · simp only [Bool.not_eq_true] at h1
        simp only [h1, Bool.false_eq_true, if_false]
        split
        · simp only [List.length_cons]; omega
        · simp only [List.length_cons]; omega
  have := h L
  unfold insK
  simp only [List.length_append, List.length_cons]; omega
theorem putK_len {x : T} {L : List T} : (putK ck key x L).length ≤ L.length + 1 := by
  unfold putK; split
  · omega
  · exact insK_len
theorem delK_len {k : κ} {L : List T} : (delK ck key k L).length ≤ L.length := List.length_filter_le _ _
end

section
variable {S T κ : Type} {ck : κ → κ → Int} {key : T → κ}
theorem UpK.map {f : S → T} {L : List S} (h : UpK ck (fun x => key (f x)) L) : UpK ck key (L.map f) := by unfold UpK; rw [List.pairwise_map]; exact h
theorem getK_map {f : S → T} {L : List S} {k : κ} : getK ck key k (L.map f) = (getK ck (fun x => key (f x)) k L).map f := by unfold getK; rw [List.find?_map]; rfl
theorem insK_map {f : S → T} {L : List S} {x : S} : insK ck key (f x) (L.map f) = (insK ck (fun x => key (f x)) x L).map f := by
  unfold insK
  rw [List.filter_map, List.filter_map, List.map_append, List.map_cons]; rfl
theorem delK_map {f : S → T} {L : List S} {k : κ} : delK ck key k (L.map f) = (delK ck (fun x => key (f x)) k L).map f := by
  unfold delK
  rw [List.filter_map]; rfl
theorem UpK.split (hc : Cmp ck) {L : List T} (hu : UpK ck key L) {x : T} (hx : x ∈ L) : insK ck key x L = L := by
  refine UpK.ext hc (hu.ins hc x) hu fun y => ?_
  rw [mem_insK hc]
  constructor
  · rintro (rfl | ⟨h, _⟩)
    · exact hx
    · exact h
  · intro h
    by_cases e : key y = key x
    · exact .inl (hu.inj hc h hx e)
    · exact .inr ⟨h, e⟩
theorem insK_perm (hc : Cmp ck) {L : List T} {x : T} (h : getK ck key (key x) L = none) : (insK ck key x L).Perm (x :: L) := by
  have hn := (getK_none hc).1 h
  have e : L.filter (gtK ck key (key x)) = L.filter fun y => !ltK ck key (key x) y := List.filter_congr fun y hy => by
    have h0 := hn y hy
    rw [ne_eq, ← hc.zero] at h0
    simp only [gtK, ltK]
    by_cases h1 : ck (key y) (key x) < 0
    · simp [h1]; omega
    · simp [h1]; omega
  unfold insK
  rw [e]
  exact List.perm_middle.trans (List.Perm.cons x (List.filter_append_perm _ L))
/-- One behind all. -/
theorem putK_last (hc : Cmp ck) {F : List T} {y : T} (h : ∀ x ∈ F, ck (key x) (key y) < 0) : putK ck key y F = F ++ [y] := by
  have hn : getK ck key (key y) F = none := (getK_none hc).2 fun x hx e => by
    have := h x hx
    rw [e, hc.self] at this; omega
  rw [putK, hn]
  show insK ck key y F = _
  unfold insK
  have f1 : F.filter (ltK ck key (key y)) = F := List.filter_eq_self.2 fun x hx => by
    simp only [ltK, decide_eq_true_eq]; exact h x hx
  have f2 : F.filter (gtK ck key (key y)) = [] := List.filter_eq_nil_iff.2 fun x hx => by
    have := h x hx
    simp only [gtK, decide_eq_true_eq]; omega
  rw [f1, f2]
/-- One in its place, and another of its key. -/
theorem UpK.at_ (hc : Cmp ck) {L : List T} (hu : UpK ck key L) {x : T} (hx : x ∈ L) : ∃ A B, L = A ++ x :: B ∧ delK ck key (key x) L = A ++ B ∧ ∀ y, key y = key x → insK ck key y L = A ++ y :: B := by
  refine ⟨L.filter (ltK ck key (key x)), L.filter (gtK ck key (key x)), (hu.split hc hx).symm, ?_, fun y e => by unfold insK; rw [e]⟩
  conv => lhs; rw [← hu.split hc hx]
  unfold delK insK
  rw [List.filter_append, List.filter_cons]
  have h0 : eqK ck key (key x) x = true := by simp [eqK, hc.self]
  simp only [h0, Bool.not_true, Bool.false_eq_true, if_false]
  congr 1
  · exact List.filter_eq_self.2 fun y hy => by
      simp only [List.mem_filter, ltK, decide_eq_true_eq] at hy
      simp [eqK]; omega
  · exact List.filter_eq_self.2 fun y hy => by
      simp only [List.mem_filter, gtK, decide_eq_true_eq] at hy
      simp [eqK]; omega
end

/-- Numbers. -/
def cmpI (a b : Int) : Int := if a < b then -1 else if b < a then 1 else 0
theorem cmpI_ok : Cmp cmpI := ⟨fun a b => by unfold cmpI; split <;> (try split) <;> omega, fun a b => by unfold cmpI; repeat' split <;> omega, fun a b d => by unfold cmpI; repeat' split <;> omega⟩
theorem cmpI_lt {a b : Int} : cmpI a b < 0 ↔ a < b := by unfold cmpI; split <;> (try split) <;> omega
theorem subI_ok : Cmp fun a b : Int => a - b := ⟨fun a b => by omega, fun a b => by omega, fun a b d => by omega⟩

/-! ### a set, as a part of the memory -/
def SetAt (Ts e : TypeId) (sz : Nat) (b : Nat) (rows : List (List PV)) : Asn := fun μ => ∃ F, SetIn Ts e sz μ b rows F

theorem SetAt.split {Ts e : TypeId} {sz b : Nat} {rows : List (List PV)} {L : List Asn} {μ : Mem} (hO : Ow (SetAt Ts e sz b rows :: L) μ) : ∃ F, SetIn Ts e sz μ b rows F ∧ ∀ {μ' : Mem} {rows' : List (List PV)} {F' : List Nat}, Mv μ μ' F F' → SetIn Ts e sz μ' b rows' F' → Ow (SetAt Ts e sz b rows' :: L) μ' := by
  obtain ⟨μ1, μ2, hs, rfl, ⟨F, h⟩, hL⟩ := hO
  refine ⟨F, h.same fun x hx => ?_, fun {μ' rows' F'} hm h' => ?_⟩
  · cases hy : μ1 x with
    | none => exact absurd hy (h.at_.2 x hx)
    | some o => rw [Mem.or_left hy]
  · exact Ow.mv (A := fun _ => True) ⟨μ1, μ2, hs, rfl, h.at_.2, hL⟩ hm fun ν hν => ⟨F', h'.same hν⟩

theorem rowsLenK {T : Type} {pv : T → List PV} {sz : Nat} (h : ∀ x, (pv x).length = sz) (L : List T) : ∀ r ∈ L.map pv, r.length = sz := fun r hr => by
  obtain ⟨x, _, rfl⟩ := List.mem_map.1 hr; exact h x
theorem rowsCellK {T : Type} {pv : T → List PV} (h : ∀ x, allCell (pv x) = true) (L : List T) : allCell (L.map pv).flatten = true := by
  unfold allCell
  rw [List.all_eq_true]
  intro x hx
  obtain ⟨r, hr, hx⟩ := List.mem_flatten.1 hx
  obtain ⟨y, _, rfl⟩ := List.mem_map.1 hr
  exact List.all_eq_true.1 (h y) x hx

/-! ### making room, closing up -/
section
variable {T : Type} {pv : T → List PV}
theorem insLenK (L : List T) (j : Nat) (y : T) : (L.take j ++ y :: L.drop j).length = L.length + 1 := by
  rw [List.length_append, List.length_cons, List.length_take, List.length_drop]; omega
theorem insStepK (L : List T) (j : Nat) (y : T) (h0 : 0 < j) (hj : j ≤ L.length) : ((L.take j ++ y :: L.drop j).map pv).set j (pv (L[j - 1]'(by omega))) = (L.take (j - 1) ++ (L[j - 1]'(by omega)) :: L.drop (j - 1)).map pv := by
  have e : L.drop (j - 1) = L[j - 1]'(by omega) :: L.drop j := by
    rw [List.drop_eq_getElem_cons (by omega)]; congr 2; omega
  have e2 : L.take j = L.take (j - 1) ++ [L[j - 1]'(by omega)] := by
    have := List.take_add_one (l := L) (i := j - 1)
    rw [show j - 1 + 1 = j by omega, List.getElem?_eq_getElem (by omega)] at this
    exact this
  have hlen : (L.take j).length = j := by rw [List.length_take]; omega
  rw [List.map_append, List.map_cons, List.set_append_right _ _ (by simp; omega)]
  simp only [List.length_map, hlen, Nat.sub_self, List.set_cons_zero]
  rw [e2, e, List.map_append, List.append_assoc, List.map_append]
  rfl
theorem insEndK (L : List T) (j : Nat) (x y : T) (hj : j ≤ L.length) : ((L.take j ++ y :: L.drop j).map pv).set j (pv x) = (L.take j ++ x :: L.drop j).map pv := by
  have hlen : (L.take j).length = j := by rw [List.length_take]; omega
  rw [List.map_append, List.map_cons, List.set_append_right _ _ (by simp; omega)]
  simp only [List.length_map, hlen, Nat.sub_self, List.set_cons_zero]
  rw [List.map_append, List.map_cons]
theorem insAtK (L : List T) (j : Nat) (y : T) (h0 : 0 < j) (hj : j ≤ L.length) : ((L.take j ++ y :: L.drop j).map pv)[j - 1]? = some (pv (L[j - 1]'(by omega))) := by
  rw [List.getElem?_map, List.getElem?_append_left (by rw [List.length_take]; omega), List.getElem?_take, if_pos (by omega), List.getElem?_eq_getElem (by omega)]
  rfl
/-- While what stood behind place k moves ahead: the first j - k of them moved. -/
def movK (L : List T) (k j : Nat) : List T := L.take k ++ (L.drop (k + 1)).take (j - k) ++ L.drop j
theorem movK0 (L : List T) (k : Nat) : movK L k k = L := by simp [movK, List.take_append_drop]
theorem movK_len {L : List T} {k j : Nat} (h1 : k ≤ j) (h2 : j < L.length) : (movK L k j).length = L.length := by
  simp only [movK, List.length_append, List.length_take, List.length_drop]; omega
theorem movK_at {L : List T} {k j : Nat} (h1 : k ≤ j) (h2 : j + 1 < L.length) : (movK L k j)[j + 1]? = some (L[j + 1]'h2) := by
  unfold movK
  have hl : (L.take k ++ (L.drop (k + 1)).take (j - k)).length = j := by
    simp only [List.length_append, List.length_take, List.length_drop]; omega
  rw [List.getElem?_append_right (by omega), hl, List.getElem?_drop, List.getElem?_eq_getElem (by omega)]
  congr 2; omega
theorem movK_step {L : List T} {k j : Nat} (h1 : k ≤ j) (h2 : j + 1 < L.length) : (movK L k j).set j (L[j + 1]'h2) = movK L k (j + 1) := by
  unfold movK
  have hl : (L.take k ++ (L.drop (k + 1)).take (j - k)).length = j := by
    simp only [List.length_append, List.length_take, List.length_drop]; omega
  rw [List.set_append_right _ _ (by omega), hl, Nat.sub_self]
  have e1 : L.drop j = (L[j]'(by omega)) :: L.drop (j + 1) := List.drop_eq_getElem_cons (by omega)
  rw [e1, List.set_cons_zero]
  have e2 : (L.drop (k + 1)).take (j + 1 - k) = (L.drop (k + 1)).take (j - k) ++ [L[j + 1]'h2] := by
    rw [show j + 1 - k = j - k + 1 by omega, List.take_add_one, List.getElem?_drop, List.getElem?_eq_getElem (by omega)]
    simp only [Option.toList_some]
    congr 3; omega
  rw [e2]; simp
theorem movK_end {L : List T} {k : Nat} (hk : k < L.length) : movK L k (L.length - 1) = L.eraseIdx k ++ [L[L.length - 1]'(by omega)] := by
  unfold movK
  rw [List.eraseIdx_eq_take_drop_succ]
  have e1 : (L.drop (k + 1)).take (L.length - 1 - k) = L.drop (k + 1) := List.take_of_length_le (by simp; omega)
  have e2 : L.drop (L.length - 1) = [L[L.length - 1]'(by omega)] := by
    rw [List.drop_eq_getElem_cons (by omega)]
    congr 1
    exact List.drop_of_length_le (by omega)
  rw [e1, e2]
end

end Go.Eng
