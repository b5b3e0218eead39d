import Derived.Test.YtfjemjnbemdkgaaQ10
import Derived.Test.YtfjemjnbemdkgaaRows
import Derived.WalkKit
import Derived.ProofKit
import Derived.OpenShut
import Derived.ShutString
import Derived.ChangeOld
import Derived.Below
/-
  Sequences that hand out memory of one's own.
-/
namespace Go.Eng
open Go.RowKit
set_option linter.unusedVariables false
set_option linter.unusedSimpArgs false
set_option linter.unnecessarySimpa false

/-- Calling f with a function y calls y with values of which these hold (with memory that goes to y), one behind the other, till it says no. -/
def SeqW (P : Program) (f : PV) (items : List (List PV → Asn)) (A A' : Asn) : Prop :=
  (∃ g a b, f = .fn (.func g) a b) ∧ ∀ (fy : Fn) (ya yb : List PV) (I : Nat → Asn) (S : Asn) (C : Asn) (μ : Mem), fnOk fy True → Ow [A, C] μ → (∀ μ', Ow [A', C] μ' → Ow [I 0] μ') →
    (∀ (k : Nat) (h : k < items.length) (vs : List PV) (μ : Mem), Ow [items[k] vs, I k] μ → CallVP P (.fn fy ya yb) vs μ fun v μ' => (v = pB true ∧ Ow [I (k + 1)] μ') ∨ (v = pB false ∧ Ow [S] μ')) →
    CallVP P f [.fn fy ya yb] μ fun _ μ' => Ow [I items.length] μ' ∨ Ow [S] μ'

theorem SeqW.mk {P : Program} {g : FuncId} {a b : List PV} {items : List (List PV → Asn)} {A A' : Asn}
    (h : ∀ (fy : Fn) (ya yb : List PV) (I : Nat → Asn) (S : Asn) (C : Asn) (μ : Mem), fnOk fy True → Ow [A, C] μ → (∀ μ', Ow [A', C] μ' → Ow [I 0] μ') →
      (∀ (k : Nat) (h : k < items.length) (vs : List PV) (μ : Mem), Ow [items[k] vs, I k] μ → CallVP P (.fn fy ya yb) vs μ fun v μ' => (v = pB true ∧ Ow [I (k + 1)] μ') ∨ (v = pB false ∧ Ow [S] μ')) →
      CallP P g (a ++ [.fn fy ya yb] ++ b) μ fun _ μ' => Ow [I items.length] μ' ∨ Ow [S] μ') : SeqW P (.fn (.func g) a b) items A A' :=
  ⟨⟨g, a, b, rfl⟩, fun fy ya yb I S C μ hy h0 h1 hstep => h fy ya yb I S C μ hy h0 h1 hstep⟩

theorem RangeP.ownW {P : Program} {f : PV} {items : List (List PV → Asn)} {A A' : Asn} {L : List Asn} {body : List PV → (Option Code → Mem → Prop) → Mem → Prop} {K : Option Code → Mem → Prop} {μ : Mem} (hs : SeqW P f items A A') (hO : Ow (A :: L) μ)
    (I : Nat → Asn) (S : Code → Asn) (hI : ∀ k, UpC (I k)) (hS : ∀ c, UpC (S c)) (h0 : ∀ μ', Ow (A' :: L) μ' → I 0 μ')
    (hstep : ∀ (k : Nat) (h : k < items.length) (vs : List PV) (μ : Mem) (R : Option Code → Mem → Prop), Ow [items[k] vs, I k] μ → (∀ μ', I (k + 1) μ' → R none μ') → (∀ c μ', S c μ' → R (some c) μ') → body vs R μ)
    (hend : ∀ μ, I items.length μ → K none μ) (hstop : ∀ c μ, S c μ → K (some c) μ) : RangeP P f body K μ := by
  obtain ⟨hf, hs⟩ := hs
  refine ⟨hf, fun l rec hl hy => ?_⟩
  have cut : ∀ {ν : Mem} {o : Ob} {M : List Asn}, Ow (Rc l o :: M) ν → ν l = some o ∧ Ow M (ν.set l none) := fun {ν o M} h => by
    obtain ⟨ν1, ν2, hsep, rfl, hR, hM⟩ := h
    refine ⟨Mem.or_left hR, hM.mono fun b o' hb => ?_⟩
    have hb1 : ν1 b = none := (hsep b).resolve_right (by rw [hb]; simp)
    have hne : b ≠ l := by
      rintro rfl
      have : ν1 b = _ := hR
      rw [this] at hb1; cases hb1
    rw [Mem.set_ne _ _ hne, Mem.or_right hb1]; exact hb
  have glue : ∀ {ν : Mem} {o : Ob}, ν l = some o → ν = (ν.set l none).set l (some o) := fun {ν o} h => by
    rw [Mem.set_set, Mem.set_self h]
  have lift : ∀ {ν μ3 : Mem} {o : Ob} {ν1 ν2 : Mem}, μ3 l = none → ν1 = μ3.set l (some o) → Mem.sep ν1 ν2 → ν = ν1.or ν2 → ν l = some o ∧ ∀ b o', μ3 b = some o' → (ν.set l none) b = some o' := fun {ν μ3 o ν1 ν2} h1 h2 hsep e => by
    subst h2 e
    refine ⟨Mem.or_left (Mem.set_same _ _ _), fun b o' hb => ?_⟩
    have hne : b ≠ l := by rintro rfl; rw [h1] at hb; cases hb
    rw [Mem.set_ne _ _ hne]
    exact Mem.or_left (by rw [Mem.set_ne _ _ hne]; exact hb)
  refine (hs (.yield l) [] [] (fun k ν => ∃ μ3, μ3 l = none ∧ ν = μ3.set l (some (rec none)) ∧ I k μ3) (fun ν => ∃ c μ3, μ3 l = none ∧ ν = μ3.set l (some (rec (some c))) ∧ S c μ3) (Ow (Rc l (rec none) :: L)) _ trivial ?_ (fun μ' hO' => Ow.one ?_) ?_).mono ?_
  · have h1 : Ow (Rc l (rec none) :: A :: L) (μ.set l (some (rec none))) := by
      refine ⟨M0.set l (some (rec none)), μ, fun x => ?_, ?_, Mem.set_same _ _ _, hO⟩
      · by_cases e : x = l
        · subst e; exact .inr hl
        · rw [Mem.set_ne _ _ e]; exact .inl rfl
      · funext x
        by_cases e : x = l
        · subst e; rw [Mem.set_same, Mem.or_left (Mem.set_same _ _ _)]
        · rw [Mem.set_ne _ _ e, Mem.or_right (by rw [Mem.set_ne _ _ e]; rfl)]
    refine h1.swap.tail fun ν hν => Ow.one hν
  · have h1 : Ow (A' :: (Rc l (rec none) :: L)) μ' := hO'.tail fun ν hν => hν.ones
    obtain ⟨h2, h3⟩ := cut h1.swap
    exact ⟨_, Mem.set_same _ _ _, glue h2, h0 _ h3⟩
  · rintro k hk vs ν ⟨ν1, ν2, hsep, e, hit, ν3, ν4, hsep2, e2, ⟨μ3, h1, h2, hIk⟩, _⟩
    obtain ⟨h4, h5⟩ := lift h1 h2 hsep2 e2
    have hn1 : ν1 l = none := (hsep l).resolve_right (by rw [h4]; simp)
    have hνl : ν l = some (rec none) := by rw [e, Mem.or_right hn1]; exact h4
    have hO' : Ow [items[k] vs, I k] (ν.set l none) := by
      refine ⟨ν1, ν2.set l none, fun x => ?_, ?_, hit, Ow.one (hI k _ _ h5 hIk)⟩
      · by_cases ex : x = l
        · subst ex; exact .inr (Mem.set_same _ _ _)
        · rw [Mem.set_ne _ _ ex]; exact hsep x
      · funext x
        by_cases ex : x = l
        · subst ex; rw [Mem.set_same, Mem.or_right hn1, Mem.set_same]
        · rw [Mem.set_ne _ _ ex, e]
          cases hx : ν1 x with
          | some o => rw [Mem.or_left hx, Mem.or_left hx]
          | none => rw [Mem.or_right hx, Mem.or_right hx, Mem.set_ne _ _ ex]
    rw [glue hνl]
    refine (hy vs (ν.set l none) (fun p μ' => match p with | none => I (k + 1) μ' | some c => S c μ') (Mem.set_same _ _ _) (hstep k hk vs _ _ hO' (fun μ' h => h) (fun c μ' h => h))).mono ?_
    rintro v μ2 ⟨p, μ4, rfl, h3, rfl, hR⟩
    cases p with
    | none => exact .inl ⟨rfl, Ow.one ⟨μ4, h3, rfl, hR⟩⟩
    | some c => exact .inr ⟨rfl, Ow.one ⟨c, μ4, h3, rfl, hR⟩⟩
  · rintro v ν (h | h)
    · obtain ⟨ν1, ν2, hsep, e, ⟨μ3, h1, h2, h3⟩, _⟩ := h
      obtain ⟨h4, h5⟩ := lift h1 h2 hsep e
      exact ⟨none, ν.set l none, Mem.set_same _ _ _, glue h4, hend _ (hI _ _ _ h5 h3)⟩
    · obtain ⟨ν1, ν2, hsep, e, ⟨c, μ3, h1, h2, h3⟩, _⟩ := h
      obtain ⟨h4, h5⟩ := lift h1 h2 hsep e
      exact ⟨some c, ν.set l none, Mem.set_same _ _ _, glue h4, hstop c _ (hS _ _ _ h5 h3)⟩

/-- A list, in a new slice of one's own. -/
theorem appR_mk {e : TypeId} {sz bytes : Nat} {f : Fl} {rows : List (List PV)} {L : List Asn} {μ : Mem} {K : Option Addr → Nat → Nat → Mem → Prop} (hO : Ow L μ) (hr : ∀ r ∈ rows, r.length = sz) (hc : allCell rows.flatten = true) (hb : rows.length * bytes ≤ 140737488355328) (h62 : rows.length < 4611686018427387904)
    (hk : ∀ a c μ', Ow (Vec e sz (.raw (.slice a rows.length c)) rows :: L) μ' → K a rows.length c μ') : appR sz bytes e none 0 0 (.list sz f rows) μ K := by
  have okr : okSz sz sz rows = true := by simp [okSz, Nat.beq_refl]
  unfold appR newC
  simp only [okr, cond_true, Nat.zero_add]
  refine ⟨hb, h62, Nat.le_refl _, ?_⟩
  cases rows with
  | nil => exact .inl ⟨rfl, fun h => absurd rfl h, hk none 0 μ (Vec.nil e sz hO)⟩
  | cons r rs =>
    refine .inr ⟨by simp, hc, fun h => by simp at h, fun _ => ⟨[], .inl ⟨trivial, rfl⟩, fun b' c' hn hc' => ?_⟩⟩
    rw [List.nil_append]
    refine hk _ c' _ ?_
    have hfl : (r :: rs).flatten.length = (r :: rs).length * sz := flatLen hr
    refine (hO.new e _ hn).imp fun ν hν => ⟨[b'], .inr ⟨b', c', _, rfl, rfl, hν, ?_, hc'⟩⟩
    rw [List.length_replicate, ← Nat.add_mul]; congr 1; omega

theorem Vec.view {e : TypeId} {sz : Nat} {p : PV} {rows : List (List PV)} {L : List Asn} {μ : Mem} (i : Nat) (hO : Ow L μ) (hi : L[i]? = some (Vec e sz p rows)) (hr : ∀ r ∈ rows, r.length = sz) (hc : allCell rows.flatten = true) : BorV μ p (.list sz .sh rows) := by
  obtain ⟨F, h, _⟩ := Vec.split (Ow.at i hi hO)
  exact h.view hr hc

/-- A block of one's own that is frozen for good: a captured variable. -/
theorem frzPtr {Z : Fz} {u : UW} {μ : Mem} {b : Nat} {T : TypeId} {cs : List PV} {r : Value} (hg : Good Z u μ) (hb : μ b = some (.cells T cs)) (hc : allCell cs = true) (hr : Rep Z (pP b 0) r) : Rep (Zbor Z u fun x => if x ∈ [b] then μ x else none) (.fptr cs 0) r := by
  have gs : Good Z u (fun x => if x ∈ [b] then μ x else none) := hg.sub fun x o hx => by
    by_cases hm : x ∈ [b]
    · simpa [hm] using hx
    · simp [hm] at hx
  obtain ⟨A, hz, hm⟩ := Zbor_at (cs := cs) gs (b := b) (by simp [hb, cellsOf])
  rw [hr.ofRaw.1]
  have hm2 := (hm.mono (Zbor_le gs)).c hc
  refine .fptr cs 0 b 0 A.toList (fun j => (A.toList[j]?).getD undef) hz (fun j hj => ?_) (fun j p hp => ?_) (fun j p hp => ?_)
  · have hlt : j < A.toList.length := by rw [hm.1]; exact hj
    rw [Nat.zero_add, List.getElem?_eq_getElem hlt]; rfl
  · exact List.all_eq_true.1 hc p (List.mem_of_getElem? hp)
  · have hlt : j < A.toList.length := by rw [hm.1]; exact (List.getElem?_eq_some_iff.1 hp).1
    have := hm2.2 j p A.toList[j] hp (List.getElem?_eq_getElem hlt)
    simp only [List.getElem?_eq_getElem hlt, Option.getD_some]; exact this.2

theorem Vec.cellsAt {e : TypeId} {sz n c : Nat} {a : Option Addr} {rows : List (List PV)} {L : List Asn} {μ : Mem} (i : Nat) (hO : Ow L μ) (hi : L[i]? = some (Vec e sz (.raw (.slice a n c)) rows)) (h0 : rows ≠ []) : ∃ b rest, a = some ⟨b, 0, none⟩ ∧ n = rows.length ∧ μ b = some (.cells e (rows.flatten ++ rest)) ∧ n ≤ c := by
  obtain ⟨F, hv, _⟩ := Vec.split (Ow.at i hi hO)
  rcases hv with ⟨_, rfl, _⟩ | ⟨b, c', rest, hp, _, hm, _, hc⟩
  · exact absurd rfl h0
  · simp only [PV.raw.injEq, Value.slice.injEq] at hp
    obtain ⟨rfl, rfl, rfl⟩ := hp
    exact ⟨b, rest, rfl, rfl, hm, hc⟩

/-- A part of a slice of one's own, as it reads. -/
theorem Vec.part {e : TypeId} {sz n c : Nat} {a : Option Addr} {rows : List (List PV)} {L : List Asn} {μ : Mem} (i : Nat) (hO : Ow L μ) (hi : L[i]? = some (Vec e sz (.raw (.slice a n c)) rows)) (hr : ∀ r ∈ rows, r.length = sz) (hc : allCell rows.flatten = true) (lo : Nat) (hlo : lo < rows.length) :
    SlM μ (slA a lo c sz) (n - lo) (c - lo) sz (rows.drop lo) := by
  obtain ⟨b, rest, rfl, rfl, hm, hle⟩ := Vec.cellsAt i hO hi (by intro h; rw [h] at hlo; simp at hlo)
  have hfl : rows.flatten.length = rows.length * sz := flatLen hr
  have hfd : (rows.drop lo).flatten.length = (rows.length - lo) * sz := by rw [flatLen (sz := sz) fun r h => hr r (List.mem_of_mem_drop h), List.length_drop]
  have hsl : slA (some ⟨b, 0, none⟩) lo c sz = some ⟨b, 0 + lo * sz, none⟩ := by unfold slA; rw [if_neg (by omega)]; rfl
  refine ⟨by rw [List.length_drop], by omega, .inr fun x hx => ?_, fun r h => hr r (List.mem_of_mem_drop h), ?_, fun _ => ⟨b, 0 + lo * sz, hsl, ?_⟩⟩
  · rw [hsl] at hx; cases hx; rfl
  · rw [← flat_drop hr (Nat.le_of_lt hlo)]
    refine List.all_eq_true.2 fun x hx => List.all_eq_true.1 hc x (List.mem_of_mem_drop hx)
  · have h1 : lo * sz + (rows.length - lo) * sz = rows.length * sz := by rw [← Nat.add_mul]; congr 1; omega
    simp only [rdM, hm]
    rw [if_pos (by rw [List.length_append, hfl]; omega), Nat.zero_add, List.drop_append_of_le_length (by rw [hfl]; omega), List.take_append_of_le_length (by rw [List.length_drop, hfl]; omega), flat_drop hr (Nat.le_of_lt hlo), List.take_of_length_le (by rw [hfd]; omega)]

/-- One row in a new block, as a slice of one's own. -/
theorem Ow.vec1 {L : List Asn} {μ : Mem} {b : Nat} {e : TypeId} {row : List PV} {sz : Nat} (h : Ow (Pt b e row :: L) μ) (hl : row.length = sz) : Ow (Vec e sz (.raw (.slice (some ⟨b, 0, none⟩) 1 1)) [row] :: L) μ :=
  h.imp fun ν hν => ⟨[b], .inr ⟨b, 1, [], rfl, rfl, by rw [show ν b = _ from hν]; simp, by simp, Nat.le_refl _⟩⟩

end Go.Eng

/-
  The law ShapeInside.
-/
namespace Go.Proofs.Ytfjemjnbemdkgaa
open Go.Eng Go.RowKit
set_option linter.unusedVariables false
set_option linter.unusedSimpArgs false
set_option linter.unnecessarySimpa false

abbrev CVec (p : PV) (l : List Cond) : Asn := Vec 37 7 p (l.map Cond.pv)
abbrev AVec (p : PV) (l : List Actn) : Asn := Vec 45 19 p (l.map Actn.pv)
theorem cvLen (l : List Cond) : ∀ r ∈ l.map Cond.pv, r.length = 7 := fun r hr => by
  obtain ⟨c, _, rfl⟩ := List.mem_map.1 hr; rw [Cond.pv_eq]; rfl
theorem cvCell (l : List Cond) : allCell (l.map Cond.pv).flatten = true := rowsCellK (pv := Cond.pv) (fun c => by rw [Cond.pv_eq]; rfl) l
theorem avLen (l : List Actn) : ∀ r ∈ l.map Actn.pv, r.length = 19 := rowsLenK (pv := Actn.pv) (fun _ => rfl) l
theorem avCell (l : List Actn) : allCell (l.map Actn.pv).flatten = true := rowsCellK (pv := Actn.pv) (fun _ => rfl) l

theorem cOneO {L : List Asn} {μ : Mem} (hO : Ow L μ) {R : PV → Mem → Prop} (hk : ∀ μ' a b, Ow (CVec (.raw (.slice a 1 1)) [oneC true] :: AVec (.raw (.slice b 1 1)) [oneA] :: L) μ' → R (.agg [pS ⟨#[97]⟩, .raw (.slice a 1 1), .raw (.slice b 1 1)]) μ') : CallP Try.prog 19 [] μ R := by
  refine G_ponderlaw06_One.c ?_
  refine (cW _).call ⟨_, _, _, rfl, (cN _).call ⟨_, _, _, rfl, fun b hb => (cW _).call ⟨_, _, _, rfl, (cN _).call ⟨_, _, _, rfl, fun c hc => ?_⟩⟩⟩⟩
  have h1 := ((hO.new 37 _ hb).new 45 oneA.pv hc)
  have h2 := h1.swap.imp (B := Pt b 37 (oneC true).pv) fun ν hν => by show ν b = _; rw [Cond.pv_eq]; exact hν
  exact hk _ _ _ ((h2.vec1 (by rw [Cond.pv_eq]; rfl)).tail fun _ h => h.vec1 rfl)

/-- What a production of one's own says to Check. -/
theorem cCheckO {L : List Asn} {μ : Mem} (i j : Nat) {a b : Option Addr} {n1 n2 c1 c2 : Nat} (p : Prod) (hO : Ow L μ) (hi : L[i]? = some (CVec (.raw (.slice a n1 c1)) p.conds)) (hj : L[j]? = some (AVec (.raw (.slice b n2 c2)) p.acts)) (hl : lightL p.conds) (hs : sizeL p.conds ≤ 1000000) (ha : p.acts.length ≤ 1000000) {R : PV → Mem → Prop} (hk : R (.tup [pI (checkE p).1, pI (checkE p).2.1]) μ) :
    CallP Try.prog 16 [.agg [pS p.name, .raw (.slice a n1 c1), .raw (.slice b n2 c2)]] μ R := by
  refine CallP.view (cCheck .sh .sh p hl hs ha) rfl (fun k x y hx hy => ?_) (fun p hp => by rw [hp]; rfl) (fun p hp => by rw [hp]; exact hk)
  cases k with
  | succ k => simp at hx
  | zero =>
    simp only [List.getElem?_cons_zero, Option.some.injEq] at hx hy
    subst hx hy
    refine ⟨.agg rfl rfl fun k x y hx hy => ?_, rfl⟩
    match k with
    | 0 => simp at hx hy; subst hx hy; exact .same _
    | 1 => simp at hx hy; subst hx hy; exact Vec.view i hO hi (cvLen _) (cvCell _)
    | 2 => simp at hx hy; subst hx hy; exact Vec.view j hO hj (avLen _) (avCell _)
    | k + 3 => simp at hx

def qT (c : UInt8) : List Test := [⟨1, ⟨#[]⟩, ⟨3, ⟨#[c]⟩, 0⟩, []⟩]
def vT (rel : Int) : List Test := [⟨rel, ⟨#[118]⟩, ⟨0, ⟨#[]⟩, 0⟩, []⟩]
def posIn (k : Int) : Cond := .mk k false ⟨#[115]⟩ (qT 112) (vT 1) false []
/-- What stands in the middle. -/
def insC : Nat → Cond
  | 0 => posIn 2
  | 1 => .mk 3 false ⟨#[]⟩ [] [] false [posIn 1]
  | _ => posIn 1
/-- The last condition, the action, one more for the place, the error. -/
def useC : Nat → Cond × Actn × Int × Int
  | 0 => (.mk 1 false ⟨#[118]⟩ (qT 113) [] false [], oneA, 0, 6)
  | 1 => (.mk 1 false ⟨#[115]⟩ (qT 113) (vT 2) false [], oneA, 0, 6)
  | 2 => (.mk 1 false ⟨#[115]⟩ (qT 113) (vT 1) false [], oneA, 0, 0)
  | _ => (.mk 1 false ⟨#[115]⟩ (qT 113) [] false [], { oneA with attr := ⟨⟨#[118]⟩, ⟨0, ⟨#[]⟩, 0⟩⟩ }, 1, 6)
def insP (i j : Nat) : Prod := ⟨⟨#[97]⟩, [oneC true, insC i, (useC j).1], [(useC j).2.1]⟩

def insOk (i j : Nat) : Bool :=
  let w := if (insC i).kind = 1 then 0 else (useC j).2.2.2
  let r := checkE (insP i j)
  if w = 0 then decide (r.1 = -1 ∧ r.2.1 = 0) else decide (r.1 = 1 + sizeL [insC i] + (useC j).2.2.1 ∧ r.2.1 = w)

theorem ins00 : insOk 0 0 = true := by kernel_rfl
theorem ins01 : insOk 0 1 = true := by kernel_rfl
theorem ins02 : insOk 0 2 = true := by kernel_rfl
theorem ins03 : insOk 0 3 = true := by kernel_rfl
theorem ins10 : insOk 1 0 = true := by kernel_rfl
theorem ins11 : insOk 1 1 = true := by kernel_rfl
theorem ins12 : insOk 1 2 = true := by kernel_rfl
theorem ins13 : insOk 1 3 = true := by kernel_rfl
theorem ins20 : insOk 2 0 = true := by kernel_rfl
theorem ins21 : insOk 2 1 = true := by kernel_rfl
theorem ins22 : insOk 2 2 = true := by kernel_rfl
theorem ins23 : insOk 2 3 = true := by kernel_rfl
theorem insAll : ∀ i, i < 3 → ∀ j, j < 4 → insOk i j = true := by
  intro i hi j hj
  match i, hi, j, hj with
  | 0, _, 0, _ => exact ins00
  | 0, _, 1, _ => exact ins01
  | 0, _, 2, _ => exact ins02
  | 0, _, 3, _ => exact ins03
  | 1, _, 0, _ => exact ins10
  | 1, _, 1, _ => exact ins11
  | 1, _, 2, _ => exact ins12
  | 1, _, 3, _ => exact ins13
  | 2, _, 0, _ => exact ins20
  | 2, _, 1, _ => exact ins21
  | 2, _, 2, _ => exact ins22
  | 2, _, 3, _ => exact ins23

abbrev CT := Int × Bool × ByteArray × (Fl × List (List PV)) × (Fl × List (List PV)) × Bool × (Fl × List (List PV))
/-- These cells are a condition's. -/
structure IsC (s : CT) (c : Cond) : Prop where
  h1 : s.1 = c.kind
  h2 : s.2.1 = c.goal
  h3 : s.2.2.1 = c.id
  h4 : s.2.2.2.1.2 = c.attr.map Test.pv
  h5 : s.2.2.2.2.1.2 = c.value.map Test.pv
  h6 : s.2.2.2.2.2.1 = c.acc
  h7 : s.2.2.2.2.2.2.2 = c.conds.map Cond.pv
theorem IsC.row {s : CT} {c : Cond} (h : IsC s c) : [pI s.1, pB s.2.1, pS s.2.2.1, .list 6 .sh s.2.2.2.1.2, .list 6 .sh s.2.2.2.2.1.2, pB s.2.2.2.2.2.1, .list 7 .sh s.2.2.2.2.2.2.2] = c.pv := by
  rw [Cond.pv_eq, h.h1, h.h2, h.h3, h.h4, h.h5, h.h6, h.h7]

theorem posIn_light (k : Int) : lightC (posIn k) := by
  refine (lightC_eq _).2 ⟨by show (⟨#[115]⟩ : ByteArray).size ≤ 100; decide, by show 1 ≤ 10; decide, by show 1 ≤ 10; decide, ?_, ?_, trivial⟩
  · intro t ht; simp [posIn, Cond.attr, qT] at ht; subst ht; exact ⟨by decide, by decide, by decide⟩
  · intro t ht; simp [posIn, Cond.value, vT] at ht; subst ht; exact ⟨by decide, by decide, by decide⟩
theorem insC_light (i : Nat) : lightC (insC i) := by
  match i with
  | 0 => exact posIn_light 2
  | 1 => exact (lightC_eq _).2 ⟨by show (⟨#[]⟩ : ByteArray).size ≤ 100; decide, by show 0 ≤ 10; decide, by show 0 ≤ 10; decide, (by intro t ht; cases ht), (by intro t ht; cases ht), ⟨posIn_light 1, trivial⟩⟩
  | i + 2 => exact posIn_light 1
theorem insC_size (i : Nat) : sizeL [insC i] ≤ 2 := by
  match i with
  | 0 => simp [insC, posIn, sizeL, sizeC]
  | 1 => simp [insC, posIn, sizeL, sizeC]
  | i + 2 => simp [insC, posIn, sizeL, sizeC]
theorem qT_light (c : UInt8) : ∀ t ∈ qT c, lightT t := by
  intro t ht; simp [qT] at ht; subst ht
  exact ⟨by show 0 ≤ 20; decide, by show (⟨#[]⟩ : ByteArray).size ≤ 100; decide, by show 1 ≤ 100; decide⟩
theorem vT_light (r : Int) : ∀ t ∈ vT r, lightT t := by
  intro t ht; simp [vT] at ht; subst ht
  exact ⟨by show 0 ≤ 20; decide, by show 1 ≤ 100; decide, by show 0 ≤ 100; decide⟩
theorem useC_light (j : Nat) : lightC (useC j).1 := by
  match j with
  | 0 => exact (lightC_eq _).2 ⟨by show 1 ≤ 100; decide, by show 1 ≤ 10; decide, by show 0 ≤ 10; decide, qT_light 113, (by intro t ht; cases ht), trivial⟩
  | 1 => exact (lightC_eq _).2 ⟨by show 1 ≤ 100; decide, by show 1 ≤ 10; decide, by show 1 ≤ 10; decide, qT_light 113, vT_light 2, trivial⟩
  | 2 => exact (lightC_eq _).2 ⟨by show 1 ≤ 100; decide, by show 1 ≤ 10; decide, by show 1 ≤ 10; decide, qT_light 113, vT_light 1, trivial⟩
  | j + 3 => exact (lightC_eq _).2 ⟨by show 1 ≤ 100; decide, by show 1 ≤ 10; decide, by show 0 ≤ 10; decide, qT_light 113, (by intro t ht; cases ht), trivial⟩
theorem useC_size (j : Nat) : sizeL [(useC j).1] ≤ 2 := by
  match j with
  | 0 | 1 | 2 => simp [useC, sizeL, sizeC]
  | j + 3 => simp [useC, sizeL, sizeC]
theorem oneC_light (g : Bool) : lightC (oneC g) := by
  refine (lightC_eq _).2 ⟨by cases g <;> decide, by cases g <;> decide, by cases g <;> decide, ?_, ?_, trivial⟩
  · intro t ht; simp [oneC, Cond.attr] at ht; subst ht; exact ⟨by decide, by decide, by decide⟩
  · intro t ht; simp [oneC, Cond.value] at ht; subst ht; exact ⟨by decide, by decide, by decide⟩

theorem cShapeInside (kind use : Int) : Pure Try.prog 8 [pI kind, pI use] (pB true) := by
  refine PureK.of (G_ponderlaw06_ShapeInside.c (cOneO (L := []) trivial fun u1 a b h1 => ⟨_, _, _, _, _, _, _, rfl, (cW _).call ⟨_, _, _, rfl, ?_⟩⟩))
  refine ⟨fun s u => (∃ i, i < 3 ∧ IsC s (insC i)) ∧ Ow [CVec (.raw (.slice a 1 1)) [oneC true], AVec (.raw (.slice b 1 1)) [oneA]] u, ?_, ?_⟩
  · refine (cWithinV kind 3 (by omega) (by omega)).call ⟨_, rfl, CIf.mk (fun e => ?_) (fun e => CIf.mk (fun e2 => ?_) (fun e2 => ?_))⟩
    · exact ⟨⟨0, by omega, rfl, rfl, rfl, rfl, rfl, rfl, rfl⟩, h1⟩
    · exact ⟨⟨1, by omega, rfl, rfl, rfl, rfl, rfl, rfl, by show _ = [(posIn 1).pv]; rw [Cond.pv_eq]; rfl⟩, h1⟩
    · exact ⟨⟨2, by omega, rfl, rfl, rfl, rfl, rfl, rfl, rfl⟩, h1⟩
  rintro s u ⟨⟨i, hi, hs⟩, hO⟩
  rw [hs.row]
  obtain ⟨a1, c1, hp, happ⟩ := Vec.app hO (cvLen [oneC true])
  simp only [PV.raw.injEq, Value.slice.injEq, List.length_map, List.length_singleton] at hp
  obtain ⟨rfl, _, rfl⟩ := hp
  refine happ (insC i).pv _ _ (by rw [Cond.pv_eq]; rfl) (by rw [Cond.pv_eq]; rfl) (by decide) (by decide) fun b2 c2 u2 O2 => ?_
  have O3 : Ow [CVec (.raw (.slice (some ⟨b2, 0, none⟩) 2 c2)) [oneC true, insC i], AVec (.raw (.slice b 1 1)) [oneA]] u2 := O2
  have hc2 : 2 ≤ c2 := by obtain ⟨_, _, _, _, _, h⟩ := Vec.cellsAt 0 O3 rfl (by simp); exact h
  refine (cW _).call ⟨_, _, _, rfl, fun x hx => (by cases hx; rfl), by omega, by simp, by simp; omega, by omega, ?_⟩
  have hpart := Vec.part 0 O3 rfl (cvLen _) (cvCell _) 1 (by simp)
  refine CallP.view (cSizeP .sh [insC i] (by have := insC_size i; omega)) rfl (fun k x y hx hy => ?_) (fun p hp => by rw [hp]; rfl) (fun p hp => ?_)
  · cases k with
    | succ k => simp at hx
    | zero =>
      simp only [List.getElem?_cons_zero, Option.some.injEq] at hx hy
      subst hx hy
      exact ⟨BorV.list hpart, rfl⟩
  subst hp
  have hsz := insC_size i
  have hw1 : IntKind.wrap .i64 (1 + ((sizeL [insC i] : Nat) : Int)) = 1 + sizeL [insC i] := wrap_id (by omega) (by omega)
  refine ⟨_, rfl, fun t u => (∃ j, j < 4 ∧ IsC t.1 (useC j).1 ∧ t.2.1 = 1 + sizeL [insC i] + (useC j).2.2.1 ∧ t.2.2 = (useC j).2.2.2 ∧ Ow [CVec (.raw (.slice (some ⟨b2, 0, none⟩) 2 c2)) [oneC true, insC i], AVec (.raw (.slice b 1 1)) [(useC j).2.1]] u), ?_, ?_⟩
  · refine (cWithinV use 4 (by omega) (by omega)).call ⟨_, rfl, CIf.mk (fun e => ?_) (fun e => CIf.mk (fun e2 => ?_) (fun e2 => CIf.mk (fun e3 => ?_) (fun e3 => ?_)))⟩
    · exact ⟨0, by omega, ⟨rfl, rfl, rfl, rfl, rfl, rfl, rfl⟩, by show IntKind.wrap .i64 _ = _ + (0 : Int); rw [hw1]; omega, rfl, O3⟩
    · exact ⟨1, by omega, ⟨rfl, rfl, rfl, rfl, rfl, rfl, rfl⟩, by show IntKind.wrap .i64 _ = _ + (0 : Int); rw [hw1]; omega, rfl, O3⟩
    · exact ⟨2, by omega, ⟨rfl, rfl, rfl, rfl, rfl, rfl, rfl⟩, by show IntKind.wrap .i64 _ = _ + (0 : Int); rw [hw1]; omega, rfl, O3⟩
    · obtain ⟨b5, rfl, _, hst⟩ := Vec.at_ 1 O3 rfl (avLen _) (j := 0) (by simp)
      refine ⟨by omega, by omega, ?_⟩
      refine hst 1 [pS ⟨#[118]⟩, pI 0, pS ⟨#[]⟩, pI 0] _ (by simp) fun u5 O5 => ⟨3, by omega, ⟨rfl, rfl, rfl, rfl, rfl, rfl, rfl⟩, ?_, rfl, O5⟩
      rw [hw1, wrap_id (by omega) (by omega)]; rfl
  rintro t u5 ⟨j, hj, ht, hat, hwant, O5⟩
  refine ⟨fun w u => w = (if (insC i).kind = 1 then 0 else (useC j).2.2.2) ∧ Ow [CVec (.raw (.slice (some ⟨b2, 0, none⟩) 2 c2)) [oneC true, insC i], AVec (.raw (.slice b 1 1)) [(useC j).2.1]] u, ?_, ?_⟩
  · refine CIf.mk (fun e => ⟨?_, O5⟩) (fun e => ⟨?_, O5⟩)
    · have : (insC i).kind = 1 := by rw [← hs.h1]; simpa using e
      rw [if_pos this]
    · have : (insC i).kind ≠ 1 := by rw [← hs.h1]; simpa using e
      rw [if_neg this]; exact hwant
  rintro w u6 ⟨hw, O6⟩
  rw [ht.row]
  obtain ⟨a3, c3, hp, happ⟩ := Vec.app O6 (cvLen [oneC true, insC i])
  simp only [PV.raw.injEq, Value.slice.injEq, List.length_map, List.length_cons, List.length_nil] at hp
  obtain ⟨rfl, _, rfl⟩ := hp
  refine happ (useC j).1.pv _ _ (by rw [Cond.pv_eq]; rfl) (by rw [Cond.pv_eq]; rfl) (by simp) (by simp) fun b7 c7 u7 O7 => ?_
  have O8 : Ow [CVec (.raw (.slice (some ⟨b7, 0, none⟩) 3 c7)) (insP i j).conds, AVec (.raw (.slice b 1 1)) (insP i j).acts] u7 := O7
  refine cCheckO 0 1 (insP i j) O8 rfl rfl ⟨oneC_light true, insC_light i, useC_light j, trivial⟩ (by
    have h1 := insC_size i
    have h2 := useC_size j
    simp only [insP, sizeL] at h1 h2 ⊢
    have : sizeC (oneC true) = 1 := rfl
    omega) (by simp [insP]) ⟨_, _, rfl, ?_⟩
  have hall := insAll i hi j hj
  unfold insOk at hall
  simp only [← hw] at hall
  refine CIf.mk (fun e => ?_) (fun e => ?_)
  · have e : w = 0 := by simpa using e
    rw [if_pos e] at hall
    have hall := of_decide_eq_true hall
    rw [hall.1, hall.2]
    exact CIf.t rfl (CIf.t rfl (cWakes.call ⟨_, rfl, rfl⟩))
  · have e : w ≠ 0 := by simpa using e
    rw [if_neg e] at hall
    have hall := of_decide_eq_true hall
    rw [hall.1, hall.2, hat]
    exact CIf.t (by simp) (CIf.t (by simp) (cWakes.call ⟨_, rfl, rfl⟩))

end Go.Proofs.Ytfjemjnbemdkgaa

/-
  The program's types, opened: symbols, bindings, tests, elements, conditions.
-/
namespace Go.Proofs.Ytfjemjnbemdkgaa
open Go.Eng
set_option linter.unusedVariables false
set_option linter.unusedSimpArgs false
set_option linter.unnecessarySimpa false
set_option maxRecDepth 100000

theorem progOwn : ownKnob Try.prog.godebug = none := by kernel_rfl
theorem progLaid : laidOutB Try.prog = true := by kernel_rfl

section
variable {w : World}

theorem szInt : Try.prog.cellsOf 3 = 1 := by kernel_rfl
theorem szBool : Try.prog.cellsOf 4 = 1 := by kernel_rfl
theorem szString : Try.prog.cellsOf 9 = 1 := by kernel_rfl
theorem szSym : Try.prog.cellsOf 39 = 3 := by kernel_rfl
theorem szSyms : Try.prog.cellsOf 47 = 1 := by kernel_rfl
theorem szTest : Try.prog.cellsOf 49 = 6 := by kernel_rfl
theorem szTests : Try.prog.cellsOf 35 = 1 := by kernel_rfl
theorem szCond : Try.prog.cellsOf 37 = 7 := by kernel_rfl
theorem szConds : Try.prog.cellsOf 22 = 1 := by kernel_rfl

theorem rdSym (n : Nat) (cs : List Value) (h : Reads Try.prog w n 39 cs) : ∃ s : Sym, RepC (Zall w) s.pv cs ∧ True := by
  obtain ⟨m, rfl, hl, hf⟩ := h.struct Try.underlying39
  rw [szSym] at hl
  obtain ⟨i0, e0, _⟩ := (fldR hf 0 0 szInt rfl rfl rfl).pint Try.underlying3
  obtain ⟨i1, e1, _⟩ := (fldR hf 1 1 szString rfl rfl rfl).pstr Try.underlying9
  obtain ⟨i2, e2, _⟩ := (fldR hf 2 2 szInt rfl rfl rfl).pint Try.underlying3
  match cs, hl with
  | [x0, x1, x2], _ => exact ⟨⟨_, _, _⟩, (e0.append e1).append e2, trivial⟩

theorem rdSyms (n : Nat) (cs : List Value) (h : Reads Try.prog w n 47 cs) : ∃ l : List Sym, RepC (Zall w) [.list 3 .sh (l.map Sym.pv)] cs ∧ (∀ s ∈ l, True) ∧ l.length ≤ maxLen :=
  h.plist Try.underlying47 szSym (by omega) fun m cs _ hr => rdSym m cs hr

theorem rdTest (n : Nat) (cs : List Value) (h : Reads Try.prog w n 49 cs) : ∃ t : Test, RepC (Zall w) t.pv cs ∧ True := by
  obtain ⟨m, rfl, hl, hf⟩ := h.struct Try.underlying49
  rw [szTest] at hl
  obtain ⟨i0, e0, _⟩ := (fldR hf 0 0 szInt rfl rfl rfl).pint Try.underlying3
  obtain ⟨i1, e1, _⟩ := (fldR hf 1 1 szString rfl rfl rfl).pstr Try.underlying9
  obtain ⟨s, e2, _⟩ := rdSym _ _ (fldR hf 2 2 szSym rfl rfl rfl)
  obtain ⟨l, e3, _⟩ := rdSyms _ _ (fldR hf 3 5 szSyms rfl rfl rfl)
  match cs, hl with
  | [x0, x1, x2, x3, x4, x5], _ => exact ⟨⟨_, _, s, l⟩, ((e0.append e1).append e2).append e3, trivial⟩

theorem rdTests (n : Nat) (cs : List Value) (h : Reads Try.prog w n 35 cs) : ∃ l : List Test, RepC (Zall w) [.list 6 .sh (l.map Test.pv)] cs ∧ (∀ s ∈ l, True) ∧ l.length ≤ maxLen :=
  h.plist Try.underlying35 szTest (by omega) fun m cs _ hr => rdTest m cs hr

theorem rdCond : ∀ (n : Nat) (cs : List Value), Reads Try.prog w n 37 cs → ∃ c : Cond, RepC (Zall w) c.pv cs ∧ True := by
  intro n
  induction n using Nat.strongRecOn with
  | ind n ih =>
    intro cs h
    obtain ⟨m, rfl, hl, hf⟩ := h.struct Try.underlying37
    rw [szCond] at hl
    obtain ⟨i0, e0, _⟩ := (fldR hf 0 0 szInt rfl rfl rfl).pint Try.underlying3
    obtain ⟨i1, e1⟩ := (fldR hf 1 1 szBool rfl rfl rfl).pbool Try.underlying4
    obtain ⟨i2, e2, _⟩ := (fldR hf 2 2 szString rfl rfl rfl).pstr Try.underlying9
    obtain ⟨a3, e3, _⟩ := rdTests _ _ (fldR hf 3 3 szTests rfl rfl rfl)
    obtain ⟨a4, e4, _⟩ := rdTests _ _ (fldR hf 4 4 szTests rfl rfl rfl)
    obtain ⟨i5, e5⟩ := (fldR hf 5 5 szBool rfl rfl rfl).pbool Try.underlying4
    obtain ⟨l, e6, _⟩ := (fldR hf 6 6 szConds rfl rfl rfl).plist (pv := Cond.pv) (Q := fun _ => True) Try.underlying22 szCond (by omega) fun m' cs' hm hr => ih m' (by omega) cs' hr
    match cs, hl with
    | [x0, x1, x2, x3, x4, x5, x6], _ =>
      refine ⟨.mk i0 i1 i2 a3 a4 i5 l, ?_, trivial⟩
      rw [Cond.pv_eq]
      exact (((((e0.append e1).append e2).append e3).append e4).append e5).append e6

theorem rdConds (n : Nat) (cs : List Value) (h : Reads Try.prog w n 22 cs) : ∃ l : List Cond, RepC (Zall w) [.list 7 .sh (l.map Cond.pv)] cs ∧ (∀ s ∈ l, True) ∧ l.length ≤ maxLen :=
  h.plist Try.underlying22 szCond (by omega) fun m cs _ hr => rdCond m cs hr

end
end Go.Proofs.Ytfjemjnbemdkgaa

namespace Go.Proofs.Ytfjemjnbemdkgaa
open Go.ChangeShapes Go.WideShapes Go.ChangeAt Go.RowKit Go.Eng
set_option linter.unusedVariables false

set_option maxRecDepth 100000 in
theorem ShapeInside.lifted (os : Os) (started : os.Started) (H : Type) (enc : TypeId × Value → H) :
    ReturnsInHanded {} Try.checked os 8 .any (Rows.shapeInsideSpec.pre6 enc Try.prog Try.f8 Rows.shapeInsideRow.domain false) (Rows.shapeInsideSpec.post enc Try.prog Try.f8 false true false false) := by
  refine returnsInHanded_of_change (C := Try.checked) progOwn started (by kernel_rfl) Try.func8
    (ChangeSpec.witness6 (enc := enc) (C := Try.checked) false ⟨#[], #[.int .i64 0, .int .i64 0], []⟩ 12 (by kernel_rfl) (by kernel_rfl) (by kernel_rfl) (by kernel_rfl)) ?_
  intro W base args ds gs before hval0 hW hcnd _
  have hval : ∀ (j : Nat) t v, Try.f8.params[j]? = some t → args[j]? = some v → Value.okWide Try.prog W .any base t v := hval0
  have hW' := hW
  obtain ⟨p, q, hA0, hV, rfl, hfz, hnd⟩ := hW
  have hA : DataW.TrodAll enc Try.prog W 0 (fun _ => true) true Try.f8.params.toList args.toList ds p := hA0
  rw [Try.params8] at hA hval
  obtain ⟨v0, vs0, d0, ds0, p0, q0, hargs, rfl, rfl, h0, r0⟩ := trodAll_cons hA
  obtain ⟨v1, vs1, d1, ds1, p1, q1, rfl, rfl, rfl, h1, r1⟩ := trodAll_cons r0
  obtain ⟨rfl, rfl, rfl⟩ := trodAll_nil r1
  obtain rfl : args = #[v0, v1] := by cases args; simp_all
  obtain ⟨rfl, rfl⟩ := trodVars_none hV
  have lt0 : ∀ x ∈ p0, x.block < W.heap.size := by obtain ⟨m, hm⟩ := h0; exact DataW.trod_lt m _ _ _ hm
  obtain ⟨a0, e0, w0⟩ := pargInt Try.underlying3 (hval 0 3 v0 rfl rfl) h0
  have lt1 : ∀ x ∈ p1, x.block < W.heap.size := by obtain ⟨m, hm⟩ := h1; exact DataW.trod_lt m _ _ _ hm
  obtain ⟨a1, e1, w1⟩ := pargInt Try.underlying3 (hval 1 3 v1 rfl rfl) h1
  clear hA0 hval0
  refine (PureK.calls (vs := [v0, v1]) (cShapeInside a0 a1) (Reps.cons rfl e0 (Reps.cons rfl e1 (Reps.nil _)))).mono fun e W' ⟨⟨v, x, Z, he, hr, hx⟩, bel⟩ => ?_
  subst hx; subst he; rw [hr.ofRaw.1]
  exact ⟨_, rfl, _, _, _, [], _, [], hW', trodAll_mk1 (shut_bool Try.underlying4 _), (trodAll_cons_mk (Below.trod progLaid (by kernel_rfl) (of_decide_eq_true (by kernel_rfl)) h0 bel lt0) (trodAll_cons_mk (Below.trod progLaid (by kernel_rfl) (of_decide_eq_true (by kernel_rfl)) h1 bel lt1) trodAll_mk0)), rfl, bel.frame _, fun h => by cases h⟩

theorem ShapeInside.proved : Rows.ShapeInsideSaid :=
  OpenClaim.holds_of_wide 8 Try.f8 rfl rfl rfl rfl rfl rfl rfl ⟨rfl, rfl, rfl, rfl, rfl⟩ rfl rfl rfl rfl rfl (by kernel_rfl) Try.func8 (by kernel_rfl)
    (of_decide_eq_true (by kernel_rfl)) (by unfold Func.isWrapper; first | (rw [if_pos (by decide +kernel)]; kernel_rfl) | (rw [if_neg (by decide +kernel)]; exact ⟨rfl, rfl⟩))
    (fun os started H enc _ => ShapeInside.lifted os started H enc)

end Go.Proofs.Ytfjemjnbemdkgaa
