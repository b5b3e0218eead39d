import Derived.Test.YtfjemjnbemdkgaaQ10
import Derived.Test.YtfjemjnbemdkgaaRows
import Derived.WalkKit
import Derived.ProofKit
import Derived.OpenShut
import Derived.ShutString
import Derived.ChangeOld
import Derived.Below
/-
  The laws of chapter 6: variables.
-/
namespace Go.Proofs.Ytfjemjnbemdkgaa
open Go.Eng Go.RowKit
set_option linter.unusedVariables false

theorem cKTexts (f g : Fl) (l : List ByteArray) (hl : l.length ≤ 1000000) : Pure Try.prog 23 [.list 1 f (rowsS l), .list 1 g (rowsS l)] (pB true) := by
  refine PureK.of (G_ponderkeep_Texts.c (CIf.f (by simp) ?_))
  refine LoopI.each (n := l.length) (by omega) (fun _ _ => True) trivial (fun k u next hk _ hnext => ?_) (fun u next _ => CIf.f (by simp) rfl)
  exact CIf.t (by simpa using hk) ⟨by omega, _, rowsS_at hk, _, rfl, by omega, _, rowsS_at hk, _, rfl, CIf.f (by simp [sEq]) (hnext _ trivial)⟩

theorem varsLen (p : Prod) : (checkE p).2.2.length ≤ 1000 := by
  by_cases h : (checkE p).2.1 = 0
  · obtain ⟨h1, h2⟩ := checkE_ok h
    obtain ⟨_, s2, _, _, hok⟩ := shapeE_ok h1
    have := knowL_len hok h2
    simp at this; omega
  · rw [checkE_no h]; simp

theorem cShapeVars (p : Prod) : Pure Try.prog 6 [.agg p.pv] (pB true) := by
  refine PureK.of (G_ponderlaw06_ShapeVars.c ?_)
  refine (cHeavy .sh .sh p).call ?_
  rintro _ ⟨q, rfl, hq⟩
  refine ⟨_, rfl, CIf.mk (fun h => cWakes.call ⟨_, rfl, rfl⟩) (fun h => ?_)⟩
  obtain ⟨hl, hs, ha, hn⟩ := hq h
  have hlen := varsLen p
  refine cVarsR .sh .sh p hl (by omega) (by omega) fun μ q Fr ho hm => ?_
  have hv := ho.view (rowsS_each _) (rowsS_cell _)
  obtain ⟨a, c, rfl, _⟩ := ho.app (rowsS_each _)
  refine ⟨_, _, _, rfl, (cRVars .sh .sh p hl (by omega) (by omega)).call ⟨_, _, rfl, ?_⟩⟩
  refine CallP.view (cKTexts .sh .sh _ (by omega)) rfl (fun i x y hx hy => ?_) (fun p hp => by rw [hp]; rfl) (fun r hr => ?_)
  · match i with
    | 0 => simp only [List.getElem?_cons_zero, Option.some.injEq] at hx hy; subst hx hy; exact ⟨hv, rfl⟩
    | 1 => simp at hx hy; subst hx hy; exact ⟨.same _, rfl⟩
    | n + 2 => simp at hx
  subst hr
  refine ⟨_, rfl, CIf.f rfl ?_⟩
  rw [rowsS_len]
  refine LoopI.each (n := (checkE p).2.2.length) (by omega) (fun i u => (checkE p).2.2.length ≠ 0 → ∃ b T cs, a = some ⟨b, 0, none⟩ ∧ u b = some (.cells T cs) ∧ (checkE p).2.2.length ≤ cs.length) (fun h0 => ?_) ?_ ?_
  · rcases ho with ⟨_, h1, _⟩ | ⟨b, c', rest, h1, _, h2, _⟩
    · have := congrArg List.length h1; simp at this; simp [this] at h0
    · simp only [PV.raw.injEq, Value.slice.injEq] at h1
      refine ⟨b, _, _, h1.1, h2, ?_⟩
      have hfl := flatLen (rowsS_each (checkE p).2.2)
      rw [rowsS_len] at hfl
      rw [List.length_append, hfl]; omega
  · intro i u next hi hI hnext
    obtain ⟨b, T, cs, rfl, h2, h3⟩ := hI (by omega)
    refine CIf.t (by simpa using hi) ⟨by omega, by omega, _, _, h2, by simp; omega, hnext _ fun _ => ⟨b, T, _, rfl, Mem.set_same _ _ _, ?_⟩⟩
    unfold wrL
    simp only [List.length_append, List.length_take, List.length_drop, List.length_singleton]
    omega
  · intro u next hI
    refine CIf.f (by simp) ?_
    refine (cVars .sh .sh p hl (by omega) (by omega)).q ⟨_, _, rfl, (cRVars .sh .sh p hl (by omega) (by omega)).call ⟨_, _, rfl, (cKTexts .sh .sh _ (by omega)).call ⟨_, rfl, CIf.t rfl (cWakes.call ⟨_, rfl, rfl⟩)⟩⟩⟩

end Go.Proofs.Ytfjemjnbemdkgaa

/-
  The laws of chapter 6: all conditions, one by one.
-/
namespace Go.Proofs.Ytfjemjnbemdkgaa
open Go.Eng Go.RowKit
set_option linter.unusedVariables false
set_option linter.unusedSimpArgs false
set_option linter.unnecessarySimpa false

abbrev tyCond : TypeId := 37

def eachL (l : List Cond) : List Cond := (preL l 0 0).map fun x => x.2.2

theorem pre_snd (l : List Cond) (a d a' d' : Nat) : (preL l a d).map (fun x => x.2.2) = (preL l a' d').map fun x => x.2.2 := by
  have key : ∀ n (l : List Cond), sizeL l ≤ n → ∀ a d a' d', (preL l a d).map (fun x => x.2.2) = (preL l a' d').map fun x => x.2.2 := by
    intro n
    induction n with
    | zero =>
      intro l h
      cases l with
      | nil => intros; rfl
      | cons c l => simp [sizeL, sizeC_eq] at h
    | succ n ih =>
      intro l
      induction l with
      | nil => intros; rfl
      | cons c l ihl =>
        intro h a d a' d'
        simp only [sizeL, sizeC_eq] at h
        simp only [preL, preC_eq, List.map_append, List.map_cons]
        rw [ih c.conds (by omega) (a + 1) (d + 1) (a' + 1) (d' + 1), ihl (by omega) (a + sizeC c) d (a' + sizeC c) d']
  exact key _ l (Nat.le_refl _) a d a' d'

theorem eachL_nil : eachL [] = [] := rfl
theorem eachL_take {l : List Cond} {i : Nat} (hi : i < l.length) : eachL (l.take (i + 1)) = eachL (l.take i) ++ (l[i] :: eachL l[i].conds) := by
  unfold eachL
  rw [List.take_add_one, List.getElem?_eq_getElem hi, preL_append, List.map_append]
  simp only [Option.toList_some, preL, List.append_nil, preC_eq, List.map_cons]
  rw [pre_snd l[i].conds _ _ 0 0]
theorem eachL_len (l : List Cond) : (eachL l).length = sizeL l := by unfold eachL; rw [List.length_map, preL_len]

theorem cREach : ∀ (n : Nat) (f : Fl) (l : List Cond), sizeL l ≤ n → sizeL l ≤ 1000000 → Pure Try.prog 29 [.list 7 f (l.map Cond.pv)] (.list 7 .sh ((eachL l).map Cond.pv)) := by
  intro n
  induction n with
  | zero =>
    intro f l h _
    have : l = [] := by
      cases l with
      | nil => rfl
      | cons c l => simp [sizeL, sizeC_eq] at h
    subst this
    refine PureK.of (G_ponderref06_Each.c ?_)
    exact LoopI.each2 (n := 0) (by omega) (fun _ x _ => x.2 = []) rfl (fun k x u next hk => by omega) (fun x u next hx => CIf.f (by simp) (by rw [hx]; rfl))
  | succ n ih =>
    intro f l h h6
    have hll := sizeL_len l
    refine PureK.of (G_ponderref06_Each.c ?_)
    refine LoopI.each2 (n := l.length) (by omega) (fun i x u => x.2 = (eachL (l.take i)).map Cond.pv ∧ TipIn x.1 (sizeL (l.take i)) 7 u) ⟨rfl, trivial⟩ ?_ ?_
    · rintro i ⟨f, _⟩ u next hi ⟨rfl, ht⟩ hnext
      have hm := sizeL_mem (List.getElem_mem hi)
      have hs := sizeL_split l (i + 1)
      have hst := sizeL_take hi
      rw [hst] at hs
      have hlen : ((eachL (l.take i)).map Cond.pv).length = sizeL (l.take i) := by rw [List.length_map, eachL_len]
      refine CIf.t (by simpa using hi) ⟨by omega, _, atRow hi, _, _, _, _, _, _, _, _, _, _, condRow _, ?_⟩
      refine appL.go1 (by rw [hlen]; exact ht) (by rw [hlen]; simp; omega) (by rw [hlen]; simp; omega) fun f1 μ1 t1 => ⟨by omega, _, atRow hi, _, _, by rw [Cond.pv_eq]; rfl, ?_⟩
      refine (ih .sh l[i].conds (by omega) (by omega)).call ⟨_, _, rfl, ?_⟩
      refine appL.go1 (by rw [List.length_append]; exact t1) (by rw [List.length_append, hlen, List.length_map, eachL_len]; simp; omega) (by rw [List.length_append, hlen, List.length_map, eachL_len]; simp; omega) fun f2 μ2 t2 => hnext _ _ ⟨?_, ?_⟩
      · rw [eachL_take hi, List.map_append, List.map_cons, Cond.pv_eq l[i], List.append_assoc]; rfl
      · rw [List.length_append, hlen, List.length_map, eachL_len] at t2
        rw [hst]
        simp only [List.length_singleton] at t2
        rw [← Nat.add_assoc]; exact t2
    · rintro ⟨f, _⟩ u next ⟨rfl, ht⟩
      refine CIf.f (by simp) ?_
      rw [List.take_length]; rfl

theorem cSizeP (f : Fl) (l : List Cond) (hs : sizeL l ≤ 1000000) : Pure Try.prog 28 [.list 7 f (l.map Cond.pv)] (pI (sizeL l : Nat)) := by
  refine PureK.of (G_shape_Size.c ?_)
  refine CallP.mono (cWalk (.func 55) [] [] trivial (fun _ _ => True) (fun _ => False) _ f l 0 0 0 _ (Nat.le_refl _) (by omega) (by omega) trivial fun k x μ hx _ => ?_) ?_
  · show CallP _ _ _ _ _
    rw [Cond.pv_eq]
    exact G_shape_Size_1.c (.inl ⟨rfl, trivial⟩)
  · rintro v μ (⟨rfl, _⟩ | ⟨x, _, h⟩)
    · refine ⟨_, _, rfl, ?_⟩
      rw [Nat.zero_add]; rfl
    · exact h.elim

@[reducible] def eachF (l : List Cond) : PV := .fn (.func 80) [] [.fptr [.list 7 .sh (l.map Cond.pv)] 0]
theorem cEach (f : Fl) (l : List Cond) : Pure Try.prog 56 [.list 7 f (l.map Cond.pv)] (eachF l) := PureK.of (G_shape_Each.c rfl)

theorem seqEach (l : List Cond) (hs : sizeL l ≤ 1000000) : SeqP Try.prog (eachF l) ((preL l 0 0).map fun x => [pI (x.1 : Nat), .agg x.2.2.pv]) := by
  refine SeqP.mk fun fy ya yb I S μ hy h0 hstep => ?_
  show CallP _ _ [.fn fy ya yb, .fptr [.list 7 .sh (l.map Cond.pv)] 0] _ _
  refine G_shape_Each_1.c ⟨_, _, rfl, ?_⟩
  refine CallP.mono (cWalk (.func 81) [] [.fptr [.fn fy ya yb] 0] trivial I S _ .sh l 0 0 0 _ (Nat.le_refl _) (by omega) (by omega) h0 fun k x μ hx hI => ?_) ?_
  · have hk : k < (preL l 0 0).length := (List.getElem?_eq_some_iff.1 hx).1
    have hxe : (preL l 0 0)[k] = x := (List.getElem?_eq_some_iff.1 hx).2
    rw [Nat.zero_add] at hI ⊢
    have := hstep k (by simpa using hk) μ hI
    simp only [List.getElem_map, hxe] at this
    show CallP _ _ _ _ _
    rw [Cond.pv_eq] at this ⊢
    refine G_shape_Each_1_1.c ⟨_, _, _, rfl, CallVP.mono this ?_⟩
    rintro v μ' (⟨rfl, h⟩ | ⟨rfl, h⟩)
    · exact ⟨_, rfl, .inl ⟨rfl, h⟩⟩
    · exact ⟨_, rfl, .inr ⟨rfl, h⟩⟩
  · rintro v μ' (⟨rfl, h⟩ | ⟨x, rfl, h⟩)
    · refine ⟨_, _, rfl, .inl ?_⟩
      rw [Nat.zero_add] at h
      rw [List.length_map, preL_len]; exact h
    · exact ⟨_, _, rfl, .inr h⟩

end Go.Proofs.Ytfjemjnbemdkgaa

/-
  The law ShapeInside.
-/
namespace Go.Proofs.Ytfjemjnbemdkgaa
open Go.Eng Go.RowKit
set_option linter.unusedVariables false
set_option linter.unusedSimpArgs false
set_option linter.unnecessarySimpa false

abbrev CVec (p : PV) (l : List Cond) : Asn := Vec 37 7 p (l.map Cond.pv)
abbrev AVec (p : PV) (l : List Actn) : Asn := Vec 45 19 p (l.map Actn.pv)
theorem cvLen (l : List Cond) : ∀ r ∈ l.map Cond.pv, r.length = 7 := fun r hr => by
  obtain ⟨c, _, rfl⟩ := List.mem_map.1 hr; rw [Cond.pv_eq]; rfl
theorem cvCell (l : List Cond) : allCell (l.map Cond.pv).flatten = true := rowsCellK (pv := Cond.pv) (fun c => by rw [Cond.pv_eq]; rfl) l
theorem avLen (l : List Actn) : ∀ r ∈ l.map Actn.pv, r.length = 19 := rowsLenK (pv := Actn.pv) (fun _ => rfl) l
theorem avCell (l : List Actn) : allCell (l.map Actn.pv).flatten = true := rowsCellK (pv := Actn.pv) (fun _ => rfl) l

theorem cOneO {L : List Asn} {μ : Mem} (hO : Ow L μ) {R : PV → Mem → Prop} (hk : ∀ μ' a b, Ow (CVec (.raw (.slice a 1 1)) [oneC true] :: AVec (.raw (.slice b 1 1)) [oneA] :: L) μ' → R (.agg [pS ⟨#[97]⟩, .raw (.slice a 1 1), .raw (.slice b 1 1)]) μ') : CallP Try.prog 19 [] μ R := by
  refine G_ponderlaw06_One.c ?_
  refine (cW _).call ⟨_, _, _, rfl, (cN _).call ⟨_, _, _, rfl, fun b hb => (cW _).call ⟨_, _, _, rfl, (cN _).call ⟨_, _, _, rfl, fun c hc => ?_⟩⟩⟩⟩
  have h1 := ((hO.new 37 _ hb).new 45 oneA.pv hc)
  have h2 := h1.swap.imp (B := Pt b 37 (oneC true).pv) fun ν hν => by show ν b = _; rw [Cond.pv_eq]; exact hν
  exact hk _ _ _ ((h2.vec1 (by rw [Cond.pv_eq]; rfl)).tail fun _ h => h.vec1 rfl)

/-- What a production of one's own says to Check. -/
theorem cCheckO {L : List Asn} {μ : Mem} (i j : Nat) {a b : Option Addr} {n1 n2 c1 c2 : Nat} (p : Prod) (hO : Ow L μ) (hi : L[i]? = some (CVec (.raw (.slice a n1 c1)) p.conds)) (hj : L[j]? = some (AVec (.raw (.slice b n2 c2)) p.acts)) (hl : lightL p.conds) (hs : sizeL p.conds ≤ 1000000) (ha : p.acts.length ≤ 1000000) {R : PV → Mem → Prop} (hk : R (.tup [pI (checkE p).1, pI (checkE p).2.1]) μ) :
    CallP Try.prog 16 [.agg [pS p.name, .raw (.slice a n1 c1), .raw (.slice b n2 c2)]] μ R := by
  refine CallP.view (cCheck .sh .sh p hl hs ha) rfl (fun k x y hx hy => ?_) (fun p hp => by rw [hp]; rfl) (fun p hp => by rw [hp]; exact hk)
  cases k with
  | succ k => simp at hx
  | zero =>
    simp only [List.getElem?_cons_zero, Option.some.injEq] at hx hy
    subst hx hy
    refine ⟨.agg rfl rfl fun k x y hx hy => ?_, rfl⟩
    match k with
    | 0 => simp at hx hy; subst hx hy; exact .same _
    | 1 => simp at hx hy; subst hx hy; exact Vec.view i hO hi (cvLen _) (cvCell _)
    | 2 => simp at hx hy; subst hx hy; exact Vec.view j hO hj (avLen _) (avCell _)
    | k + 3 => simp at hx

def qT (c : UInt8) : List Test := [⟨1, ⟨#[]⟩, ⟨3, ⟨#[c]⟩, 0⟩, []⟩]
def vT (rel : Int) : List Test := [⟨rel, ⟨#[118]⟩, ⟨0, ⟨#[]⟩, 0⟩, []⟩]
def posIn (k : Int) : Cond := .mk k false ⟨#[115]⟩ (qT 112) (vT 1) false []
/-- What stands in the middle. -/
def insC : Nat → Cond
  | 0 => posIn 2
  | 1 => .mk 3 false ⟨#[]⟩ [] [] false [posIn 1]
  | _ => posIn 1
/-- The last condition, the action, one more for the place, the error. -/
def useC : Nat → Cond × Actn × Int × Int
  | 0 => (.mk 1 false ⟨#[118]⟩ (qT 113) [] false [], oneA, 0, 6)
  | 1 => (.mk 1 false ⟨#[115]⟩ (qT 113) (vT 2) false [], oneA, 0, 6)
  | 2 => (.mk 1 false ⟨#[115]⟩ (qT 113) (vT 1) false [], oneA, 0, 0)
  | _ => (.mk 1 false ⟨#[115]⟩ (qT 113) [] false [], { oneA with attr := ⟨⟨#[118]⟩, ⟨0, ⟨#[]⟩, 0⟩⟩ }, 1, 6)
def insP (i j : Nat) : Prod := ⟨⟨#[97]⟩, [oneC true, insC i, (useC j).1], [(useC j).2.1]⟩

def insOk (i j : Nat) : Bool :=
  let w := if (insC i).kind = 1 then 0 else (useC j).2.2.2
  let r := checkE (insP i j)
  if w = 0 then decide (r.1 = -1 ∧ r.2.1 = 0) else decide (r.1 = 1 + sizeL [insC i] + (useC j).2.2.1 ∧ r.2.1 = w)

theorem ins00 : insOk 0 0 = true := by kernel_rfl
theorem ins01 : insOk 0 1 = true := by kernel_rfl
theorem ins02 : insOk 0 2 = true := by kernel_rfl
theorem ins03 : insOk 0 3 = true := by kernel_rfl
theorem ins10 : insOk 1 0 = true := by kernel_rfl
theorem ins11 : insOk 1 1 = true := by kernel_rfl
theorem ins12 : insOk 1 2 = true := by kernel_rfl
theorem ins13 : insOk 1 3 = true := by kernel_rfl
theorem ins20 : insOk 2 0 = true := by kernel_rfl
theorem ins21 : insOk 2 1 = true := by kernel_rfl
theorem ins22 : insOk 2 2 = true := by kernel_rfl
theorem ins23 : insOk 2 3 = true := by kernel_rfl
theorem insAll : ∀ i, i < 3 → ∀ j, j < 4 → insOk i j = true := by
  intro i hi j hj
  match i, hi, j, hj with
  | 0, _, 0, _ => exact ins00
  | 0, _, 1, _ => exact ins01
  | 0, _, 2, _ => exact ins02
  | 0, _, 3, _ => exact ins03
  | 1, _, 0, _ => exact ins10
  | 1, _, 1, _ => exact ins11
  | 1, _, 2, _ => exact ins12
  | 1, _, 3, _ => exact ins13
  | 2, _, 0, _ => exact ins20
  | 2, _, 1, _ => exact ins21
  | 2, _, 2, _ => exact ins22
  | 2, _, 3, _ => exact ins23

abbrev CT := Int × Bool × ByteArray × (Fl × List (List PV)) × (Fl × List (List PV)) × Bool × (Fl × List (List PV))
/-- These cells are a condition's. -/
structure IsC (s : CT) (c : Cond) : Prop where
  h1 : s.1 = c.kind
  h2 : s.2.1 = c.goal
  h3 : s.2.2.1 = c.id
  h4 : s.2.2.2.1.2 = c.attr.map Test.pv
  h5 : s.2.2.2.2.1.2 = c.value.map Test.pv
  h6 : s.2.2.2.2.2.1 = c.acc
  h7 : s.2.2.2.2.2.2.2 = c.conds.map Cond.pv
theorem IsC.row {s : CT} {c : Cond} (h : IsC s c) : [pI s.1, pB s.2.1, pS s.2.2.1, .list 6 .sh s.2.2.2.1.2, .list 6 .sh s.2.2.2.2.1.2, pB s.2.2.2.2.2.1, .list 7 .sh s.2.2.2.2.2.2.2] = c.pv := by
  rw [Cond.pv_eq, h.h1, h.h2, h.h3, h.h4, h.h5, h.h6, h.h7]

theorem posIn_light (k : Int) : lightC (posIn k) := by
  refine (lightC_eq _).2 ⟨by show (⟨#[115]⟩ : ByteArray).size ≤ 100; decide, by show 1 ≤ 10; decide, by show 1 ≤ 10; decide, ?_, ?_, trivial⟩
  · intro t ht; simp [posIn, Cond.attr, qT] at ht; subst ht; exact ⟨by decide, by decide, by decide⟩
  · intro t ht; simp [posIn, Cond.value, vT] at ht; subst ht; exact ⟨by decide, by decide, by decide⟩
theorem insC_light (i : Nat) : lightC (insC i) := by
  match i with
  | 0 => exact posIn_light 2
  | 1 => exact (lightC_eq _).2 ⟨by show (⟨#[]⟩ : ByteArray).size ≤ 100; decide, by show 0 ≤ 10; decide, by show 0 ≤ 10; decide, (by intro t ht; cases ht), (by intro t ht; cases ht), ⟨posIn_light 1, trivial⟩⟩
  | i + 2 => exact posIn_light 1
theorem insC_size (i : Nat) : sizeL [insC i] ≤ 2 := by
  match i with
  | 0 => simp [insC, posIn, sizeL, sizeC]
  | 1 => simp [insC, posIn, sizeL, sizeC]
  | i + 2 => simp [insC, posIn, sizeL, sizeC]
theorem qT_light (c : UInt8) : ∀ t ∈ qT c, lightT t := by
  intro t ht; simp [qT] at ht; subst ht
  exact ⟨by show 0 ≤ 20; decide, by show (⟨#[]⟩ : ByteArray).size ≤ 100; decide, by show 1 ≤ 100; decide⟩
theorem vT_light (r : Int) : ∀ t ∈ vT r, lightT t := by
  intro t ht; simp [vT] at ht; subst ht
  exact ⟨by show 0 ≤ 20; decide, by show 1 ≤ 100; decide, by show 0 ≤ 100; decide⟩
theorem useC_light (j : Nat) : lightC (useC j).1 := by
  match j with
  | 0 => exact (lightC_eq _).2 ⟨by show 1 ≤ 100; decide, by show 1 ≤ 10; decide, by show 0 ≤ 10; decide, qT_light 113, (by intro t ht; cases ht), trivial⟩
  | 1 => exact (lightC_eq _).2 ⟨by show 1 ≤ 100; decide, by show 1 ≤ 10; decide, by show 1 ≤ 10; decide, qT_light 113, vT_light 2, trivial⟩
  | 2 => exact (lightC_eq _).2 ⟨by show 1 ≤ 100; decide, by show 1 ≤ 10; decide, by show 1 ≤ 10; decide, qT_light 113, vT_light 1, trivial⟩
  | j + 3 => exact (lightC_eq _).2 ⟨by show 1 ≤ 100; decide, by show 1 ≤ 10; decide, by show 0 ≤ 10; decide, qT_light 113, (by intro t ht; cases ht), trivial⟩
theorem useC_size (j : Nat) : sizeL [(useC j).1] ≤ 2 := by
  match j with
  | 0 | 1 | 2 => simp [useC, sizeL, sizeC]
  | j + 3 => simp [useC, sizeL, sizeC]
theorem oneC_light (g : Bool) : lightC (oneC g) := by
  refine (lightC_eq _).2 ⟨by cases g <;> decide, by cases g <;> decide, by cases g <;> decide, ?_, ?_, trivial⟩
  · intro t ht; simp [oneC, Cond.attr] at ht; subst ht; exact ⟨by decide, by decide, by decide⟩
  · intro t ht; simp [oneC, Cond.value] at ht; subst ht; exact ⟨by decide, by decide, by decide⟩

theorem cShapeInside (kind use : Int) : Pure Try.prog 8 [pI kind, pI use] (pB true) := by
  refine PureK.of (G_ponderlaw06_ShapeInside.c (cOneO (L := []) trivial fun u1 a b h1 => ⟨_, _, _, _, _, _, _, rfl, (cW _).call ⟨_, _, _, rfl, ?_⟩⟩))
  refine ⟨fun s u => (∃ i, i < 3 ∧ IsC s (insC i)) ∧ Ow [CVec (.raw (.slice a 1 1)) [oneC true], AVec (.raw (.slice b 1 1)) [oneA]] u, ?_, ?_⟩
  · refine (cWithinV kind 3 (by omega) (by omega)).call ⟨_, rfl, CIf.mk (fun e => ?_) (fun e => CIf.mk (fun e2 => ?_) (fun e2 => ?_))⟩
    · exact ⟨⟨0, by omega, rfl, rfl, rfl, rfl, rfl, rfl, rfl⟩, h1⟩
    · exact ⟨⟨1, by omega, rfl, rfl, rfl, rfl, rfl, rfl, by show _ = [(posIn 1).pv]; rw [Cond.pv_eq]; rfl⟩, h1⟩
    · exact ⟨⟨2, by omega, rfl, rfl, rfl, rfl, rfl, rfl, rfl⟩, h1⟩
  rintro s u ⟨⟨i, hi, hs⟩, hO⟩
  rw [hs.row]
  obtain ⟨a1, c1, hp, happ⟩ := Vec.app hO (cvLen [oneC true])
  simp only [PV.raw.injEq, Value.slice.injEq, List.length_map, List.length_singleton] at hp
  obtain ⟨rfl, _, rfl⟩ := hp
  refine happ (insC i).pv _ _ (by rw [Cond.pv_eq]; rfl) (by rw [Cond.pv_eq]; rfl) (by decide) (by decide) fun b2 c2 u2 O2 => ?_
  have O3 : Ow [CVec (.raw (.slice (some ⟨b2, 0, none⟩) 2 c2)) [oneC true, insC i], AVec (.raw (.slice b 1 1)) [oneA]] u2 := O2
  have hc2 : 2 ≤ c2 := by obtain ⟨_, _, _, _, _, h⟩ := Vec.cellsAt 0 O3 rfl (by simp); exact h
  refine (cW _).call ⟨_, _, _, rfl, fun x hx => (by cases hx; rfl), by omega, by simp, by simp; omega, by omega, ?_⟩
  have hpart := Vec.part 0 O3 rfl (cvLen _) (cvCell _) 1 (by simp)
  refine CallP.view (cSizeP .sh [insC i] (by have := insC_size i; omega)) rfl (fun k x y hx hy => ?_) (fun p hp => by rw [hp]; rfl) (fun p hp => ?_)
  · cases k with
    | succ k => simp at hx
    | zero =>
      simp only [List.getElem?_cons_zero, Option.some.injEq] at hx hy
      subst hx hy
      exact ⟨BorV.list hpart, rfl⟩
  subst hp
  have hsz := insC_size i
  have hw1 : IntKind.wrap .i64 (1 + ((sizeL [insC i] : Nat) : Int)) = 1 + sizeL [insC i] := wrap_id (by omega) (by omega)
  refine ⟨_, rfl, fun t u => (∃ j, j < 4 ∧ IsC t.1 (useC j).1 ∧ t.2.1 = 1 + sizeL [insC i] + (useC j).2.2.1 ∧ t.2.2 = (useC j).2.2.2 ∧ Ow [CVec (.raw (.slice (some ⟨b2, 0, none⟩) 2 c2)) [oneC true, insC i], AVec (.raw (.slice b 1 1)) [(useC j).2.1]] u), ?_, ?_⟩
  · refine (cWithinV use 4 (by omega) (by omega)).call ⟨_, rfl, CIf.mk (fun e => ?_) (fun e => CIf.mk (fun e2 => ?_) (fun e2 => CIf.mk (fun e3 => ?_) (fun e3 => ?_)))⟩
    · exact ⟨0, by omega, ⟨rfl, rfl, rfl, rfl, rfl, rfl, rfl⟩, by show IntKind.wrap .i64 _ = _ + (0 : Int); rw [hw1]; omega, rfl, O3⟩
    · exact ⟨1, by omega, ⟨rfl, rfl, rfl, rfl, rfl, rfl, rfl⟩, by show IntKind.wrap .i64 _ = _ + (0 : Int); rw [hw1]; omega, rfl, O3⟩
    · exact ⟨2, by omega, ⟨rfl, rfl, rfl, rfl, rfl, rfl, rfl⟩, by show IntKind.wrap .i64 _ = _ + (0 : Int); rw [hw1]; omega, rfl, O3⟩
    · obtain ⟨b5, rfl, _, hst⟩ := Vec.at_ 1 O3 rfl (avLen _) (j := 0) (by simp)
      refine ⟨by omega, by omega, ?_⟩
      refine hst 1 [pS ⟨#[118]⟩, pI 0, pS ⟨#[]⟩, pI 0] _ (by simp) fun u5 O5 => ⟨3, by omega, ⟨rfl, rfl, rfl, rfl, rfl, rfl, rfl⟩, ?_, rfl, O5⟩
      rw [hw1, wrap_id (by omega) (by omega)]; rfl
  rintro t u5 ⟨j, hj, ht, hat, hwant, O5⟩
  refine ⟨fun w u => w = (if (insC i).kind = 1 then 0 else (useC j).2.2.2) ∧ Ow [CVec (.raw (.slice (some ⟨b2, 0, none⟩) 2 c2)) [oneC true, insC i], AVec (.raw (.slice b 1 1)) [(useC j).2.1]] u, ?_, ?_⟩
  · refine CIf.mk (fun e => ⟨?_, O5⟩) (fun e => ⟨?_, O5⟩)
    · have : (insC i).kind = 1 := by rw [← hs.h1]; simpa using e
      rw [if_pos this]
    · have : (insC i).kind ≠ 1 := by rw [← hs.h1]; simpa using e
      rw [if_neg this]; exact hwant
  rintro w u6 ⟨hw, O6⟩
  rw [ht.row]
  obtain ⟨a3, c3, hp, happ⟩ := Vec.app O6 (cvLen [oneC true, insC i])
  simp only [PV.raw.injEq, Value.slice.injEq, List.length_map, List.length_cons, List.length_nil] at hp
  obtain ⟨rfl, _, rfl⟩ := hp
  refine happ (useC j).1.pv _ _ (by rw [Cond.pv_eq]; rfl) (by rw [Cond.pv_eq]; rfl) (by simp) (by simp) fun b7 c7 u7 O7 => ?_
  have O8 : Ow [CVec (.raw (.slice (some ⟨b7, 0, none⟩) 3 c7)) (insP i j).conds, AVec (.raw (.slice b 1 1)) (insP i j).acts] u7 := O7
  refine cCheckO 0 1 (insP i j) O8 rfl rfl ⟨oneC_light true, insC_light i, useC_light j, trivial⟩ (by
    have h1 := insC_size i
    have h2 := useC_size j
    simp only [insP, sizeL] at h1 h2 ⊢
    have : sizeC (oneC true) = 1 := rfl
    omega) (by simp [insP]) ⟨_, _, rfl, ?_⟩
  have hall := insAll i hi j hj
  unfold insOk at hall
  simp only [← hw] at hall
  refine CIf.mk (fun e => ?_) (fun e => ?_)
  · have e : w = 0 := by simpa using e
    rw [if_pos e] at hall
    have hall := of_decide_eq_true hall
    rw [hall.1, hall.2]
    exact CIf.t rfl (CIf.t rfl (cWakes.call ⟨_, rfl, rfl⟩))
  · have e : w ≠ 0 := by simpa using e
    rw [if_neg e] at hall
    have hall := of_decide_eq_true hall
    rw [hall.1, hall.2, hat]
    exact CIf.t (by simp) (CIf.t (by simp) (cWakes.call ⟨_, rfl, rfl⟩))

end Go.Proofs.Ytfjemjnbemdkgaa

/-
  The law ShapeNames.
-/
namespace Go.Proofs.Ytfjemjnbemdkgaa
open Go.Eng Go.RowKit
set_option linter.unusedVariables false
set_option linter.unusedSimpArgs false
set_option linter.unnecessarySimpa false

/-- q and z at the end turned. -/
def nameQ (s : ByteArray) : ByteArray :=
  match (bL s).getLast? with
  | some c => bif c.toNat == 113 then s.extract 0 (s.size - 1) ++ ⟨#[122]⟩ else bif c.toNat == 122 then s.extract 0 (s.size - 1) ++ ⟨#[113]⟩ else s
  | none => s

theorem cNameQ (s : ByteArray) (hs : s.size ≤ 1000000) : Pure Try.prog 26 [pS s] (pS (nameQ s)) := by
  refine PureK.of (G_ponderlaw06_name.c ?_)
  refine CIf.mk (fun h => ?_) (fun h => ?_)
  · rw [strEq_iff.1 h]; rfl
  · have hne : s ≠ ⟨#[]⟩ := strEq_false.1 h
    have hpos : 0 < s.size := by
      rcases Nat.eq_zero_or_pos s.size with h0 | h0
      · exact absurd (ByteArray.ext (Array.eq_empty_of_size_eq_zero h0)) hne
      · exact h0
    have hw : IntKind.wrap .i64 (((ByteArray.size s : Nat) : Int) - 1) = ((s.size - 1 : Nat) : Int) := by rw [wrap_id (by omega) (by omega)]; omega
    have hlt : s.size - 1 < (bL s).length := by rw [bL_len]; omega
    obtain ⟨c, hb, hlast⟩ : ∃ c, s[Int.toNat ((s.size - 1 : Nat) : Int)]? = some c ∧ (bL s).getLast? = some c :=
      ⟨(bL s)[s.size - 1]'hlt, byteAt (by omega), by rw [List.getLast?_eq_getElem?, bL_len, List.getElem?_eq_getElem hlt]⟩
    rw [hw]
    have hsz : ∀ x : ByteArray, x.size = 1 → ByteArray.size (s.extract (Int.toNat 0) (Int.toNat ((s.size - 1 : Nat) : Int))) + x.size < 9223372036854775808 := fun x hx => by
      rw [hx, ByteArray.size_extract]; simp; omega
    refine ⟨by omega, _, hb, CIf.mk (fun h1 => ?_) (fun h1 => ?_)⟩
    · refine ⟨by omega, by omega, by omega, hsz _ rfl, ?_⟩
      show pS _ = pS _
      rw [Int.toNat_natCast]
      have : nameQ s = s.extract 0 (s.size - 1) ++ ⟨#[122]⟩ := by
        unfold nameQ; rw [hlast]
        have h1 : (c.toNat == 113) = true := by simp at h1 ⊢; omega
        simp only [h1, cond_true]
      rw [this]; rfl
    · refine ⟨by omega, _, hb, CIf.mk (fun h2 => ?_) (fun h2 => ?_)⟩
      · refine ⟨by omega, by omega, by omega, hsz _ rfl, ?_⟩
        show pS _ = pS _
        rw [Int.toNat_natCast]
        have : nameQ s = s.extract 0 (s.size - 1) ++ ⟨#[113]⟩ := by
          unfold nameQ; rw [hlast]
          have h1 : (c.toNat == 113) = false := by simp at h1 ⊢; omega
          have h2 : (c.toNat == 122) = true := by simp at h2 ⊢; omega
          simp only [h1, h2, cond_true, cond_false]
        rw [this]; rfl
      · have : nameQ s = s := by
          unfold nameQ; rw [hlast]
          have h1 : (c.toNat == 113) = false := by simp at h1 ⊢; omega
          have h2 : (c.toNat == 122) = false := by simp at h2 ⊢; omega
          simp only [h1, h2, cond_false]
        rw [this]; rfl

theorem bL_ext {s t : ByteArray} (h : bL s = bL t) : s = t := ByteArray.ext (Array.ext' h)
theorem bL_cut (s : ByteArray) (c : UInt8) : bL (s.extract 0 (s.size - 1) ++ ⟨#[c]⟩) = (bL s).take (s.size - 1) ++ [c] := by
  simp [bL, ByteArray.data_append, ByteArray.data_extract]
  rw [List.dropLast_eq_take]; rfl

/-- The same, of lists. -/
def nameL (l : List UInt8) : List UInt8 :=
  match l.getLast? with
  | some c => bif c.toNat == 113 then l.take (l.length - 1) ++ [122] else bif c.toNat == 122 then l.take (l.length - 1) ++ [113] else l
  | none => l
theorem nameQ_bL (s : ByteArray) : bL (nameQ s) = nameL (bL s) := by
  unfold nameQ nameL
  cases (bL s).getLast? with
  | none => rfl
  | some c =>
    simp only
    cases c.toNat == 113 with
    | true => simp only [cond_true]; rw [bL_cut]; rfl
    | false =>
      simp only [cond_false]
      cases c.toNat == 122 with
      | true => simp only [cond_true]; rw [bL_cut]; rfl
      | false => rfl
theorem nameL_snoc (l : List UInt8) (c : UInt8) : nameL (l ++ [c]) = l ++ [bif c.toNat == 113 then 122 else bif c.toNat == 122 then 113 else c] := by
  unfold nameL
  simp only [List.getLast?_concat, List.length_append, List.length_singleton, Nat.add_sub_cancel, List.take_left']
  cases c.toNat == 113 <;> cases c.toNat == 122 <;> rfl

theorem snoc_of {l : List UInt8} (h : l ≠ []) : ∃ l' c, l = l' ++ [c] := ⟨l.dropLast, l.getLast h, (List.dropLast_concat_getLast h).symm⟩

theorem nameQ_ok : RenOk nameQ := by
  refine ⟨by kernel_rfl, fun a h => ?_, fun a h => ?_⟩
  · have hne : bL a ≠ [] := fun e => word_ne h (bL_ext e)
    obtain ⟨l, c, e⟩ := snoc_of hne
    unfold wordB at h ⊢
    rw [nameQ_bL, e, nameL_snoc]
    rw [e] at h
    have key : ∀ d : UInt8, (smallB c = true → smallB d = true) → (partB c = true → partB d = true) → wordL (l ++ [c]) = true → wordL (l ++ [d]) = true := by
      intro d h1 h2 hw
      unfold wordL at hw ⊢
      simp only [Bool.and_eq_true, decide_eq_true_eq, List.length_append, List.length_singleton, List.all_append, List.all_cons, List.all_nil, Bool.and_true] at hw ⊢
      refine ⟨hw.1, hw.2.1, ?_, hw.2.2.2.1, h2 hw.2.2.2.2⟩
      cases l with
      | nil => exact h1 hw.2.2.1
      | cons x l => exact hw.2.2.1
    have s1 : smallB 122 = true := by kernel_rfl
    have s2 : smallB 113 = true := by kernel_rfl
    have p1 : partB 122 = true := by kernel_rfl
    have p2 : partB 113 = true := by kernel_rfl
    cases c.toNat == 113 with
    | true => exact key 122 (fun _ => s1) (fun _ => p1) h
    | false =>
      cases c.toNat == 122 with
      | true => exact key 113 (fun _ => s2) (fun _ => p2) h
      | false => exact key c id id h
  · have hne : bL a ≠ [] := fun e => word_ne h (bL_ext e)
    obtain ⟨l, c, e⟩ := snoc_of hne
    refine bL_ext ?_
    rw [nameQ_bL, nameQ_bL, e, nameL_snoc, nameL_snoc]
    congr 2
    cases h1 : c.toNat == 113 with
    | true =>
      have : c = 113 := UInt8.toNat_inj.1 (by simpa using h1)
      subst this; rfl
    | false =>
      cases h2 : c.toNat == 122 with
      | true =>
        have : c = 122 := UInt8.toNat_inj.1 (by simpa using h2)
        subst this; rfl
      | false => simp only [cond_false, h1, h2]

end Go.Proofs.Ytfjemjnbemdkgaa

/-
  The law ShapeNames.
-/
namespace Go.Proofs.Ytfjemjnbemdkgaa
open Go.Eng Go.RowKit
set_option linter.unusedVariables false
set_option linter.unusedSimpArgs false
set_option linter.unnecessarySimpa false

theorem cRow_ren (r : ByteArray → ByteArray) (x : Cond × PV × PV × PV) : wrL (cRow x) 2 [pS (r x.1.id)] = cRow (renC r x.1, x.2) := by
  obtain ⟨c, x⟩ := x
  show [pI c.kind, pB c.goal, pS (r c.id), x.1, x.2.1, pB c.acc, x.2.2] = [pI (renC r c).kind, pB (renC r c).goal, pS (renC r c).id, x.1, x.2.1, pB (renC r c).acc, x.2.2]
  rw [renC_eq]; rfl

theorem cOtherN : ∀ (n : Nat) {a : Option Addr} {c : Nat} (l : List Cond) (hs : sizeL l ≤ n) (h6 : sizeL l ≤ 1000) (hl : lightL l) {L : List Asn} {u : Mem} (hO : Ow (CondsT false n l (.raw (.slice a l.length c)) :: L) u) {K : PV → Mem → Prop} (hk : ∀ u', Ow (CondsT false n (l.map (renC nameQ)) (.raw (.slice a l.length c)) :: L) u' → K (.tup []) u'), CallP Try.prog 25 [.raw (.slice a l.length c)] u K := by
  intro n
  induction n with
  | zero =>
    intro a c l hs h6 hl L u hO K hk
    have : l = [] := by
      cases l with
      | nil => rfl
      | cons c l => simp [sizeL, sizeC_eq] at hs
    subst this
    refine G_ponderlaw06_other.c ?_
    exact LoopI.each (n := 0) (by omega) (fun _ u => Ow (CondsT false 0 [] (.raw (.slice a 0 c)) :: L) u) hO (fun k u next hk => by omega) fun u next hO => CIf.f (by simp) (hk u hO)
  | succ n ih =>
    intro a c l hs h6 hl L u hO K hk
    obtain ⟨X, rfl, hXc, hO⟩ := CondsT.open_ hO
    rw [List.length_map] at hO ⊢
    rw [List.length_map] at hk
    have hll := sizeL_len (X.map (·.1))
    rw [List.length_map] at hll
    refine G_ponderlaw06_other.c ?_
    let g : Cond × PV × PV × PV → Cond × PV × PV × PV := fun x => (renC nameQ x.1, x.2)
    have hO1 : Ow (Vec tyCondO 7 (.raw (.slice a X.length c)) ((turnI g X 0).map cRow) :: ((turnI g X 0).map (kOwn false n) ++ L)) u := by rw [turnI_0]; exact hO
    refine LoopI.each (n := X.length) (by omega) (fun i u => Ow (Vec tyCondO 7 (.raw (.slice a X.length c)) ((turnI g X i).map cRow) :: ((turnI g X i).map (kOwn false n) ++ L)) u) hO1 ?_ ?_
    · intro i u next hi hO hnext
      have hlen := turnI_len g X i (by omega)
      have hxm : X[i].1 ∈ X.map (·.1) := List.mem_map.2 ⟨_, List.getElem_mem hi, rfl⟩
      have hm := sizeL_mem hxm
      obtain ⟨l0, l1, l2, l3, l4, l5⟩ := (lightC_eq _).1 (lightL_iff.1 hl _ hxm)
      have hlt : i < ((turnI g X i).map cRow).length := by simpa [hlen] using hi
      obtain ⟨b2, rfl, _, _⟩ := Vec.at_ 0 hO rfl (cRowLen _) (j := i) hlt
      have hri : ((turnI g X i).map cRow)[i]'hlt = cRow X[i] := by
        obtain ⟨h1, h2⟩ := List.getElem?_eq_some_iff.1 (turnI_get (g := g) hi)
        rw [List.getElem_map, h2]
      have hA := Rw.vec (e := tyCondO) (n := X.length) (c := c) (b := b2) (cRowLen (turnI g X i)) hlt
      -- the one that is turned, ahead
      have hO2 : Ow ((fun row => Vec tyCondO 7 (.raw (.slice (some ⟨b2, 0, none⟩) X.length c)) (((turnI g X i).map cRow).set i row)) (cRow X[i]) :: TestsT false X[i].1.attr X[i].2.1 :: TestsT false X[i].1.value X[i].2.2.1 :: CondsT false n X[i].1.conds X[i].2.2.2 :: ((((X.take i).map g).map (kOwn false n) ++ (X.drop (i + 1)).map (kOwn false n)) ++ L)) u := by
        show Ow (Vec tyCondO 7 _ (((turnI g X i).map cRow).set i (cRow X[i])) :: _) u
        rw [← hri, List.set_getElem_self]
        have e : (turnI g X i).map (kOwn false n) = ((X.take i).map g).map (kOwn false n) ++ kOwn false n X[i] :: (X.drop (i + 1)).map (kOwn false n) := by rw [turnI_at hi, List.map_append, List.map_cons]
        rw [e] at hO
        have h1 := Ow.pick (P := [Vec tyCondO 7 (.raw (.slice (some ⟨b2, 0, none⟩) X.length c)) ((turnI g X i).map cRow)]) hO
        exact h1.swap.tail fun _ h => Ow.nest h
      refine CIf.t (by simpa using hi) ⟨by omega, by omega, ?_⟩
      simp only [Int.toNat_natCast]
      refine ⟨_, hA.rd rfl hO2 2 1 (by omega), (cNameQ _ (by omega)).call ⟨_, rfl, hA.st rfl hO2 2 [pS (nameQ X[i].1.id)] _ (by simp) fun u2 O2 => ?_⟩⟩
      refine renTests (f := 3) hA (wrL_len (by simp)) (by omega) rfl (by omega) (fun t ht => cNameQ _ (by have := (l3 t ht).2.1; omega)) O2 fun u3 O3 => ?_
      refine renTests (f := 4) hA (wrL_len (by simp)) (by omega) rfl (by omega) (fun t ht => cNameQ _ (by have := (l4 t ht).2.1; omega)) (O3.tail fun _ h => h.swap) fun u4 O4 => ?_
      obtain ⟨a5, c5, hq5⟩ := (Ow.at 3 rfl O4).fact fun _ h => CondsT.raw h
      have hrd6 := hA.rd (row := wrL (cRow X[i]) 2 [pS (nameQ X[i].1.id)]) rfl O4 6 1 (by omega)
      have hrd6' : rdM u4 b2 (0 + i * 7 + 6) 1 = some [.raw (.slice a5 X[i].1.conds.length c5)] := by rw [hrd6]; show some [X[i].2.2.2] = _; rw [hq5]
      refine ⟨_, _, _, hrd6', ?_⟩
      have O5 := Ow.at 3 rfl O4
      rw [hq5] at O5
      refine ih X[i].1.conds (by omega) (by omega) l5 O5 fun u5 O6 => ⟨rfl, hnext _ ?_⟩
      -- and back
      have hrow : ((turnI g X i).map cRow).set i (wrL (cRow X[i]) 2 [pS (nameQ X[i].1.id)]) = (turnI g X (i + 1)).map cRow := by
        rw [cRow_ren]; exact turnI_set (g := g) (f := cRow) hi
      have hown : Ow (kOwn false n (g X[i]) :: ([Vec tyCondO 7 (.raw (.slice (some ⟨b2, 0, none⟩) X.length c)) ((turnI g X (i + 1)).map cRow)] ++ ((((X.take i).map g).map (kOwn false n) ++ (X.drop (i + 1)).map (kOwn false n)) ++ L))) u5 := by
        have h1 : Ow (Vec tyCondO 7 (.raw (.slice (some ⟨b2, 0, none⟩) X.length c)) ((turnI g X (i + 1)).map cRow) :: TestsT false (X[i].1.attr.map (renT nameQ)) X[i].2.1 :: TestsT false (X[i].1.value.map (renT nameQ)) X[i].2.2.1 :: CondsT false n (X[i].1.conds.map (renC nameQ)) X[i].2.2.2 :: ((((X.take i).map g).map (kOwn false n) ++ (X.drop (i + 1)).map (kOwn false n)) ++ L)) u5 := by
          rw [← hrow, hq5]
          exact (O6.swap.tail fun _ h => h.swap.tail fun _ h => h.swap).tail fun _ h => h.swap
        refine Ow.swap ?_
        refine h1.tail fun ν hν => ?_
        have h2 := Ow.pack (L1 := [TestsT false (X[i].1.attr.map (renT nameQ)) X[i].2.1, TestsT false (X[i].1.value.map (renT nameQ)) X[i].2.2.1, CondsT false n (X[i].1.conds.map (renC nameQ)) X[i].2.2.2]) hν
        refine h2.imp fun κ hκ => ?_
        show Ow [TestsT false (renC nameQ X[i].1).attr X[i].2.1, TestsT false (renC nameQ X[i].1).value X[i].2.2.1, CondsT false n (renC nameQ X[i].1).conds X[i].2.2.2] κ
        rw [renC_eq]
        exact hκ
      have e2 : (turnI g X (i + 1)).map (kOwn false n) = ((X.take i).map g).map (kOwn false n) ++ kOwn false n (g X[i]) :: (X.drop (i + 1)).map (kOwn false n) := by rw [turnI_succ hi, List.map_append, List.map_cons]
      rw [e2]
      exact Ow.unpick (P := [Vec tyCondO 7 (.raw (.slice (some ⟨b2, 0, none⟩) X.length c)) ((turnI g X (i + 1)).map cRow)]) hown
    · intro u next hO
      rw [turnI_all] at hO
      refine CIf.f (by simp) (hk u ?_)
      have h3 := CondsT.shut (X := X.map g) (fun x hx => by
        obtain ⟨y, hy, rfl⟩ := List.mem_map.1 hx
        exact hXc y hy) hO
      have e2 : (X.map g).map (·.1) = (X.map (·.1)).map (renC nameQ) := by rw [List.map_map, List.map_map]; rfl
      rw [e2] at h3
      exact h3

theorem nameQ_size (s : ByteArray) : (nameQ s).size = s.size := by
  rw [← bL_len, nameQ_bL, ← bL_len]
  by_cases h : bL s = []
  · rw [h]; rfl
  · obtain ⟨l, c, e⟩ := snoc_of h
    rw [e, nameL_snoc]; simp

theorem ren_light (r : ByteArray → ByteArray) (hr : ∀ s, (r s).size = s.size) : ∀ c, lightC c → lightC (renC r c) := by
  intro c
  induction c using Cond.ind with
  | h c ih =>
    intro h
    obtain ⟨h0, h1, h2, h3, h4, h5⟩ := (lightC_eq _).1 h
    rw [renC_eq]
    refine (lightC_eq _).2 ⟨by show (r c.id).size ≤ 100; rw [hr]; exact h0, by show (c.attr.map (renT r)).length ≤ 10; rw [List.length_map]; exact h1, by show (c.value.map (renT r)).length ≤ 10; rw [List.length_map]; exact h2, ?_, ?_, ?_⟩
    · intro t ht
      obtain ⟨t', ht', rfl⟩ := List.mem_map.1 ht
      obtain ⟨a, b, d⟩ := h3 t' ht'
      exact ⟨a, by show (r t'.var).size ≤ 100; rw [hr]; exact b, d⟩
    · intro t ht
      obtain ⟨t', ht', rfl⟩ := List.mem_map.1 ht
      obtain ⟨a, b, d⟩ := h4 t' ht'
      exact ⟨a, by show (r t'.var).size ≤ 100; rw [hr]; exact b, d⟩
    · refine lightL_iff.2 fun d hd => ?_
      obtain ⟨d', hd', rfl⟩ := List.mem_map.1 hd
      exact ih d' hd' (lightL_iff.1 h5 d' hd')
theorem ren_lightL (r : ByteArray → ByteArray) (hr : ∀ s, (r s).size = s.size) {l : List Cond} (h : lightL l) : lightL (l.map (renC r)) := lightL_iff.2 fun d hd => by
  obtain ⟨d', hd', rfl⟩ := List.mem_map.1 hd
  exact ren_light r hr d' (lightL_iff.1 h d' hd')

theorem prodBor {L : List Asn} {μ : Mem} {d : Bool} {n : Nat} {q s : PV} (p : Prod) (hO : Ow (CondsT d n p.conds q :: Vec tyActO 19 s (p.acts.map Actn.pv) :: L) μ) : BorV μ (.agg [pS p.name, q, s]) (.agg p.pv) := by
  obtain ⟨ν1, t1, i1⟩ := hO.mem _ (List.mem_cons_self ..)
  refine .agg rfl rfl fun k x y hx hy => ?_
  match k with
  | 0 => simp at hx hy; subst hx hy; exact .same _
  | 1 => simp at hx hy; subst hx hy; exact t1.view i1
  | 2 => simp at hx hy; subst hx hy; exact Vec.view 1 hO rfl (actLen _) (actCell _)
  | k + 3 => simp at hx

theorem nm_size {v : ByteArray} (h : nm v) : v.size ≤ 1000000 := by
  rcases h with rfl | h
  · decide
  · unfold wordB wordL at h
    simp only [Bool.and_eq_true, decide_eq_true_eq] at h
    have := h.2.1
    rw [bL_len] at this; omega
theorem checkE_nm {p : Prod} (h : (shapeE p).2 = 0) : nmL (checkE p).2.2 := by
  obtain ⟨h1, _⟩ := shapeE_nm h
  have hk := (knowL_ren nameQ_ok p.conds 0 [] (by intro x hx; cases hx) h1).2
  have hnil : nmL [] := by intro x hx; cases hx
  unfold checkE
  rw [h]
  simp only [bne_self_eq_false, cond_false]
  cases (p.conds.head?.map Cond.kind).getD 0 != 1 with
  | true => exact hnil
  | false =>
    simp only [cond_false]
    cases hc : knowL p.conds 0 [] with
    | error e => exact hnil
    | ok K =>
      simp only
      cases firstL K 0 p.acts with
      | some i => exact hnil
      | none => exact hk K hc

theorem cShapeNames (p : Prod) : Pure Try.prog 7 [.agg p.pv] (pB true) := by
  refine PureK.of (G_ponderlaw06_ShapeNames.c ?_)
  refine (cHeavy .sh .sh p).call ?_
  rintro _ ⟨q, rfl, hq⟩
  refine ⟨_, rfl, CIf.mk (fun h => cWakes.call ⟨_, rfl, rfl⟩) (fun h => ?_)⟩
  obtain ⟨hl, hs, ha, hn⟩ := hq h
  refine (cShape .sh .sh p hl (by omega) (by omega)).call ⟨_, _, rfl, CIf.mk (fun h => cWakes.call ⟨_, rfl, rfl⟩) (fun h => ?_)⟩
  have hsh : (shapeE p).2 = 0 := by simpa using h
  have hE := checkE_ren nameQ_ok hsh
  refine cCopyProdW (L := []) trivial .sh .sh p 100 (by omega) (by omega) hl (by omega) fun a1 c1 a2 c2 u1 O1 => ⟨_, _, _, _, _, _, _, rfl, ?_⟩
  refine cOtherN 100 p.conds (by omega) (by omega) hl O1 fun u2 O2 => ⟨rfl, ?_⟩
  have hac := (shapeE_nm hsh).2
  have O3 : Ow [Vec tyActO 19 (.raw (.slice a2 p.acts.length c2)) ((turnI (renA nameQ) p.acts 0).map Actn.pv), CondsT false 100 (p.conds.map (renC nameQ)) (.raw (.slice a1 p.conds.length c1))] u2 := by rw [turnI_0]; exact O2.swap
  refine LoopI.each (n := p.acts.length) (by omega) (fun i u => Ow [Vec tyActO 19 (.raw (.slice a2 p.acts.length c2)) ((turnI (renA nameQ) p.acts i).map Actn.pv), CondsT false 100 (p.conds.map (renC nameQ)) (.raw (.slice a1 p.conds.length c1))] u) O3 ?_ ?_
  · intro i u next hi hO hnext
    have hlen := turnI_len (renA nameQ) p.acts i (by omega)
    have hlt : i < ((turnI (renA nameQ) p.acts i).map Actn.pv).length := by simpa [hlen] using hi
    obtain ⟨b2, rfl, _, _⟩ := Vec.at_ 0 hO rfl (actLen _) (j := i) hlt
    have hri : ((turnI (renA nameQ) p.acts i).map Actn.pv)[i]'hlt = p.acts[i].pv := by
      obtain ⟨h1, h2⟩ := List.getElem?_eq_some_iff.1 (turnI_get (g := renA nameQ) hi)
      rw [List.getElem_map, h2]
    have hA := Rw.vec (e := tyActO) (n := p.acts.length) (c := c2) (b := b2) (actLen (turnI (renA nameQ) p.acts i)) hlt
    have hO2 : Ow ((fun row => Vec tyActO 19 (.raw (.slice (some ⟨b2, 0, none⟩) p.acts.length c2)) (((turnI (renA nameQ) p.acts i).map Actn.pv).set i row)) p.acts[i].pv :: [CondsT false 100 (p.conds.map (renC nameQ)) (.raw (.slice a1 p.conds.length c1))]) u := by
      show Ow (Vec tyActO 19 _ (((turnI (renA nameQ) p.acts i).map Actn.pv).set i p.acts[i].pv) :: _) u
      rw [← hri, List.set_getElem_self]; exact hO
    obtain ⟨n1, n2, n3, n4, n5⟩ := hac _ (List.getElem_mem hi)
    refine CIf.t (by simpa using hi) ⟨by omega, by omega, ?_⟩
    simp only [Int.toNat_natCast]
    refine ⟨_, hA.rd rfl hO2 0 1 (by omega), (cNameQ _ (nm_size n1)).call ⟨_, rfl, hA.st rfl hO2 0 [pS (nameQ p.acts[i].id)] _ (by simp) fun v1 P1 => ?_⟩⟩
    refine ⟨_, hA.rd rfl P1 1 1 (by omega), (cNameQ _ (nm_size n2)).call ⟨_, rfl, hA.st rfl P1 1 [pS (nameQ p.acts[i].attr.var)] _ (by simp) fun v2 P2 => ?_⟩⟩
    refine ⟨_, hA.rd rfl P2 6 1 (by omega), (cNameQ _ (nm_size n3)).call ⟨_, rfl, hA.st rfl P2 6 [pS (nameQ p.acts[i].value.a.var)] _ (by simp) fun v3 P3 => ?_⟩⟩
    refine ⟨_, hA.rd rfl P3 10 1 (by omega), (cNameQ _ (nm_size n4)).call ⟨_, rfl, hA.st rfl P3 10 [pS (nameQ p.acts[i].value.b.var)] _ (by simp) fun v4 P4 => ?_⟩⟩
    refine ⟨_, hA.rd rfl P4 15 1 (by omega), (cNameQ _ (nm_size n5)).call ⟨_, rfl, hA.st rfl P4 15 [pS (nameQ p.acts[i].other.var)] _ (by simp) fun v5 P5 => hnext _ ?_⟩⟩
    rw [← turnI_set (g := renA nameQ) (f := Actn.pv) hi]
    exact P5
  · intro u next hO
    rw [turnI_all] at hO
    refine CIf.f (by simp) ((cCheck .sh .sh p hl (by omega) (by omega)).call ⟨_, _, rfl, ?_⟩)
    have hlr : lightL (renP nameQ p).conds := ren_lightL nameQ nameQ_size hl
    have hsr : sizeL (renP nameQ p).conds ≤ 1000000 := by show sizeL (p.conds.map (renC nameQ)) ≤ _; rw [← renL_eq, sizeL_ren]; omega
    have har : (renP nameQ p).acts.length ≤ 1000000 := by show (p.acts.map (renA nameQ)).length ≤ _; rw [List.length_map]; omega
    have hO' : Ow (CondsT false 100 (renP nameQ p).conds (.raw (.slice a1 p.conds.length c1)) :: Vec tyActO 19 (.raw (.slice a2 p.acts.length c2)) ((renP nameQ p).acts.map Actn.pv) :: []) u := hO.swap
    have hb : ∀ (k : Nat) x y, [PV.agg [pS p.name, .raw (.slice a1 p.conds.length c1), .raw (.slice a2 p.acts.length c2)]][k]? = some x → [PV.agg (renP nameQ p).pv][k]? = some y → BorV u x y ∧ y.ok = true := fun k x y hx hy => by
      cases k with
      | zero => simp only [List.getElem?_cons_zero, Option.some.injEq] at hx hy; subst hx hy; exact ⟨prodBor (renP nameQ p) hO', rfl⟩
      | succ k => simp at hx
    refine CallP.view (cCheck .sh .sh (renP nameQ p) hlr hsr har) rfl hb (fun p hp => by rw [hp]; rfl) (fun x hx => ?_)
    subst hx
    refine ⟨_, _, rfl, (cVars .sh .sh p hl (by omega) (by omega)).q ⟨_, _, rfl, ?_⟩⟩
    rw [Mem.or_M0]
    refine CallP.give (cVars .sh .sh (renP nameQ p) hlr hsr har) rfl hb (fun x hx => ?_)
    subst hx
    rw [hE]
    refine ⟨_, _, rfl, CIf.f (by simp) (CIf.f (by simp) (CIf.f (by simp [rowsS]) ?_))⟩
    rw [rowsS_len]
    have hvl := varsLen p
    refine LoopI.each (n := (checkE p).2.2.length) (by omega) (fun _ _ => True) trivial ?_ ?_
    · intro i u next hi _ hnext
      have hi' : i < ((checkE p).2.2.map nameQ).length := by simpa using hi
      refine CIf.t (by simpa using hi) ⟨by omega, _, rowsS_at hi, _, rfl, by omega, _, rowsS_at hi', _, rfl, (cNameQ _ ?_).q ⟨_, rfl, CIf.f (by rw [List.getElem_map]; simp [strEq_self]) (hnext _ trivial)⟩⟩
      exact nm_size (checkE_nm hsh _ (List.getElem_mem hi))
    · intro u next _
      exact CIf.f (by simp) (cWakes.call ⟨_, rfl, rfl⟩)

end Go.Proofs.Ytfjemjnbemdkgaa

/-
  The program's types, opened: symbols, bindings, tests, elements, conditions.
-/
namespace Go.Proofs.Ytfjemjnbemdkgaa
open Go.Eng
set_option linter.unusedVariables false
set_option linter.unusedSimpArgs false
set_option linter.unnecessarySimpa false
set_option maxRecDepth 100000

theorem progOwn : ownKnob Try.prog.godebug = none := by kernel_rfl
theorem progLaid : laidOutB Try.prog = true := by kernel_rfl

section
variable {w : World}

theorem szInt : Try.prog.cellsOf 3 = 1 := by kernel_rfl
theorem szBool : Try.prog.cellsOf 4 = 1 := by kernel_rfl
theorem szString : Try.prog.cellsOf 9 = 1 := by kernel_rfl
theorem szSym : Try.prog.cellsOf 39 = 3 := by kernel_rfl
theorem szSyms : Try.prog.cellsOf 47 = 1 := by kernel_rfl
theorem szTest : Try.prog.cellsOf 49 = 6 := by kernel_rfl
theorem szTests : Try.prog.cellsOf 35 = 1 := by kernel_rfl
theorem szCond : Try.prog.cellsOf 37 = 7 := by kernel_rfl
theorem szConds : Try.prog.cellsOf 22 = 1 := by kernel_rfl

theorem rdSym (n : Nat) (cs : List Value) (h : Reads Try.prog w n 39 cs) : ∃ s : Sym, RepC (Zall w) s.pv cs ∧ True := by
  obtain ⟨m, rfl, hl, hf⟩ := h.struct Try.underlying39
  rw [szSym] at hl
  obtain ⟨i0, e0, _⟩ := (fldR hf 0 0 szInt rfl rfl rfl).pint Try.underlying3
  obtain ⟨i1, e1, _⟩ := (fldR hf 1 1 szString rfl rfl rfl).pstr Try.underlying9
  obtain ⟨i2, e2, _⟩ := (fldR hf 2 2 szInt rfl rfl rfl).pint Try.underlying3
  match cs, hl with
  | [x0, x1, x2], _ => exact ⟨⟨_, _, _⟩, (e0.append e1).append e2, trivial⟩

theorem rdSyms (n : Nat) (cs : List Value) (h : Reads Try.prog w n 47 cs) : ∃ l : List Sym, RepC (Zall w) [.list 3 .sh (l.map Sym.pv)] cs ∧ (∀ s ∈ l, True) ∧ l.length ≤ maxLen :=
  h.plist Try.underlying47 szSym (by omega) fun m cs _ hr => rdSym m cs hr

theorem rdTest (n : Nat) (cs : List Value) (h : Reads Try.prog w n 49 cs) : ∃ t : Test, RepC (Zall w) t.pv cs ∧ True := by
  obtain ⟨m, rfl, hl, hf⟩ := h.struct Try.underlying49
  rw [szTest] at hl
  obtain ⟨i0, e0, _⟩ := (fldR hf 0 0 szInt rfl rfl rfl).pint Try.underlying3
  obtain ⟨i1, e1, _⟩ := (fldR hf 1 1 szString rfl rfl rfl).pstr Try.underlying9
  obtain ⟨s, e2, _⟩ := rdSym _ _ (fldR hf 2 2 szSym rfl rfl rfl)
  obtain ⟨l, e3, _⟩ := rdSyms _ _ (fldR hf 3 5 szSyms rfl rfl rfl)
  match cs, hl with
  | [x0, x1, x2, x3, x4, x5], _ => exact ⟨⟨_, _, s, l⟩, ((e0.append e1).append e2).append e3, trivial⟩

theorem rdTests (n : Nat) (cs : List Value) (h : Reads Try.prog w n 35 cs) : ∃ l : List Test, RepC (Zall w) [.list 6 .sh (l.map Test.pv)] cs ∧ (∀ s ∈ l, True) ∧ l.length ≤ maxLen :=
  h.plist Try.underlying35 szTest (by omega) fun m cs _ hr => rdTest m cs hr

theorem rdCond : ∀ (n : Nat) (cs : List Value), Reads Try.prog w n 37 cs → ∃ c : Cond, RepC (Zall w) c.pv cs ∧ True := by
  intro n
  induction n using Nat.strongRecOn with
  | ind n ih =>
    intro cs h
    obtain ⟨m, rfl, hl, hf⟩ := h.struct Try.underlying37
    rw [szCond] at hl
    obtain ⟨i0, e0, _⟩ := (fldR hf 0 0 szInt rfl rfl rfl).pint Try.underlying3
    obtain ⟨i1, e1⟩ := (fldR hf 1 1 szBool rfl rfl rfl).pbool Try.underlying4
    obtain ⟨i2, e2, _⟩ := (fldR hf 2 2 szString rfl rfl rfl).pstr Try.underlying9
    obtain ⟨a3, e3, _⟩ := rdTests _ _ (fldR hf 3 3 szTests rfl rfl rfl)
    obtain ⟨a4, e4, _⟩ := rdTests _ _ (fldR hf 4 4 szTests rfl rfl rfl)
    obtain ⟨i5, e5⟩ := (fldR hf 5 5 szBool rfl rfl rfl).pbool Try.underlying4
    obtain ⟨l, e6, _⟩ := (fldR hf 6 6 szConds rfl rfl rfl).plist (pv := Cond.pv) (Q := fun _ => True) Try.underlying22 szCond (by omega) fun m' cs' hm hr => ih m' (by omega) cs' hr
    match cs, hl with
    | [x0, x1, x2, x3, x4, x5, x6], _ =>
      refine ⟨.mk i0 i1 i2 a3 a4 i5 l, ?_, trivial⟩
      rw [Cond.pv_eq]
      exact (((((e0.append e1).append e2).append e3).append e4).append e5).append e6

theorem rdConds (n : Nat) (cs : List Value) (h : Reads Try.prog w n 22 cs) : ∃ l : List Cond, RepC (Zall w) [.list 7 .sh (l.map Cond.pv)] cs ∧ (∀ s ∈ l, True) ∧ l.length ≤ maxLen :=
  h.plist Try.underlying22 szCond (by omega) fun m cs _ hr => rdCond m cs hr

end
end Go.Proofs.Ytfjemjnbemdkgaa

/-
  The program's types, opened: atoms, terms, actions, productions.
-/
namespace Go.Proofs.Ytfjemjnbemdkgaa
open Go.Eng
set_option linter.unusedVariables false
set_option linter.unusedSimpArgs false
set_option linter.unnecessarySimpa false
set_option maxRecDepth 100000

section
variable {w : World}

theorem szAtom : Try.prog.cellsOf 41 = 4 := by kernel_rfl
theorem szTerm : Try.prog.cellsOf 43 = 9 := by kernel_rfl
theorem szActn : Try.prog.cellsOf 45 = 19 := by kernel_rfl
theorem szActns : Try.prog.cellsOf 23 = 1 := by kernel_rfl
theorem szProd : Try.prog.cellsOf 25 = 3 := by kernel_rfl

theorem rdAtom (n : Nat) (cs : List Value) (h : Reads Try.prog w n 41 cs) : ∃ s : Atom, RepC (Zall w) s.pv cs ∧ True := by
  obtain ⟨m, rfl, hl, hf⟩ := h.struct Try.underlying41
  rw [szAtom] at hl
  obtain ⟨i0, e0, _⟩ := (fldR hf 0 0 szString rfl rfl rfl).pstr Try.underlying9
  obtain ⟨s, e1, _⟩ := rdSym _ _ (fldR hf 1 1 szSym rfl rfl rfl)
  match cs, hl with
  | [x0, x1, x2, x3], _ => exact ⟨⟨_, s⟩, e0.append e1, trivial⟩

theorem rdTerm (n : Nat) (cs : List Value) (h : Reads Try.prog w n 43 cs) : ∃ s : Term, RepC (Zall w) s.pv cs ∧ True := by
  obtain ⟨m, rfl, hl, hf⟩ := h.struct Try.underlying43
  rw [szTerm] at hl
  obtain ⟨i0, e0, _⟩ := (fldR hf 0 0 szInt rfl rfl rfl).pint Try.underlying3
  obtain ⟨a, e1, _⟩ := rdAtom _ _ (fldR hf 1 1 szAtom rfl rfl rfl)
  obtain ⟨b, e2, _⟩ := rdAtom _ _ (fldR hf 2 5 szAtom rfl rfl rfl)
  match cs, hl with
  | [x0, x1, x2, x3, x4, x5, x6, x7, x8], _ => exact ⟨⟨_, a, b⟩, (e0.append e1).append e2, trivial⟩

theorem rdActn (n : Nat) (cs : List Value) (h : Reads Try.prog w n 45 cs) : ∃ s : Actn, RepC (Zall w) s.pv cs ∧ True := by
  obtain ⟨m, rfl, hl, hf⟩ := h.struct Try.underlying45
  rw [szActn] at hl
  obtain ⟨i0, e0, _⟩ := (fldR hf 0 0 szString rfl rfl rfl).pstr Try.underlying9
  obtain ⟨a, e1, _⟩ := rdAtom _ _ (fldR hf 1 1 szAtom rfl rfl rfl)
  obtain ⟨t, e2, _⟩ := rdTerm _ _ (fldR hf 2 5 szTerm rfl rfl rfl)
  obtain ⟨i3, e3, _⟩ := (fldR hf 3 14 szInt rfl rfl rfl).pint Try.underlying3
  obtain ⟨o, e4, _⟩ := rdAtom _ _ (fldR hf 4 15 szAtom rfl rfl rfl)
  match cs, hl with
  | [x0, x1, x2, x3, x4, x5, x6, x7, x8, x9, x10, x11, x12, x13, x14, x15, x16, x17, x18], _ => exact ⟨⟨_, a, t, _, o⟩, (((e0.append e1).append e2).append e3).append e4, trivial⟩

theorem rdProd (n : Nat) (cs : List Value) (h : Reads Try.prog w n 25 cs) : ∃ p : Eng.Prod, RepC (Zall w) p.pv cs ∧ True := by
  obtain ⟨m, rfl, hl, hf⟩ := h.struct Try.underlying25
  rw [szProd] at hl
  obtain ⟨i0, e0, _⟩ := (fldR hf 0 0 szString rfl rfl rfl).pstr Try.underlying9
  obtain ⟨c, e1, _⟩ := rdConds _ _ (fldR hf 1 1 szConds rfl rfl rfl)
  obtain ⟨a, e2, _⟩ := (fldR hf 2 2 szActns rfl rfl rfl).plist (pv := Actn.pv) (Q := fun _ => True) Try.underlying23 szActn (by omega) fun m' cs' hm hr => rdActn m' cs' hr
  match cs, hl with
  | [x0, x1, x2], _ => exact ⟨⟨_, c, a⟩, (e0.append e1).append e2, trivial⟩

end
end Go.Proofs.Ytfjemjnbemdkgaa

namespace Go.Proofs.Ytfjemjnbemdkgaa
open Go.ChangeShapes Go.WideShapes Go.ChangeAt Go.RowKit Go.Eng
set_option linter.unusedVariables false

set_option maxRecDepth 100000 in
theorem ShapeNames.lifted (os : Os) (started : os.Started) (H : Type) (enc : TypeId × Value → H) :
    ReturnsInHanded {} Try.checked os 7 .any (Rows.shapeNamesSpec.pre6 enc Try.prog Try.f7 Rows.shapeNamesRow.domain false) (Rows.shapeNamesSpec.post enc Try.prog Try.f7 false true false false) := by
  refine returnsInHanded_of_change (C := Try.checked) progOwn started (by kernel_rfl) Try.func7
    (ChangeSpec.witness6 (enc := enc) (C := Try.checked) false ⟨#[], #[.agg #[.string ByteArray.empty, .slice none 0 0, .slice none 0 0]], []⟩ 12 (by kernel_rfl) (by kernel_rfl) (by kernel_rfl) (by kernel_rfl)) ?_
  intro W base args ds gs before hval0 hW hcnd _
  have hval : ∀ (j : Nat) t v, Try.f7.params[j]? = some t → args[j]? = some v → Value.okWide Try.prog W .any base t v := hval0
  have hW' := hW
  obtain ⟨p, q, hA0, hV, rfl, hfz, hnd⟩ := hW
  have hA : DataW.TrodAll enc Try.prog W 0 (fun _ => true) true Try.f7.params.toList args.toList ds p := hA0
  rw [Try.params7] at hA hval
  obtain ⟨v0, vs0, d0, ds0, p0, q0, hargs, rfl, rfl, h0, r0⟩ := trodAll_cons hA
  obtain ⟨rfl, rfl, rfl⟩ := trodAll_nil r0
  obtain rfl : args = #[v0] := by cases args; simp_all
  obtain ⟨rfl, rfl⟩ := trodVars_none hV
  have lt0 : ∀ x ∈ p0, x.block < W.heap.size := by obtain ⟨m, hm⟩ := h0; exact DataW.trod_lt m _ _ _ hm
  obtain ⟨a0, e0, w0⟩ := pargAgg Try.underlying25 rdProd (hval 0 25 v0 rfl rfl) h0
  clear hA0 hval0
  refine (PureK.calls (vs := [v0]) (cShapeNames a0) (Reps.cons rfl e0 (Reps.nil _))).mono fun e W' ⟨⟨v, x, Z, he, hr, hx⟩, bel⟩ => ?_
  subst hx; subst he; rw [hr.ofRaw.1]
  exact ⟨_, rfl, _, _, _, [], _, [], hW', trodAll_mk1 (shut_bool Try.underlying4 _), (trodAll_cons_mk (Below.trod progLaid (by kernel_rfl) (of_decide_eq_true (by kernel_rfl)) h0 bel lt0) trodAll_mk0), rfl, bel.frame _, fun h => by cases h⟩

theorem ShapeNames.proved : Rows.ShapeNamesSaid :=
  OpenClaim.holds_of_wide 7 Try.f7 rfl rfl rfl rfl rfl rfl rfl ⟨rfl, rfl, rfl, rfl, rfl⟩ rfl rfl rfl rfl rfl (by kernel_rfl) Try.func7 (by kernel_rfl)
    (of_decide_eq_true (by kernel_rfl)) (by unfold Func.isWrapper; first | (rw [if_pos (by decide +kernel)]; kernel_rfl) | (rw [if_neg (by decide +kernel)]; exact ⟨rfl, rfl⟩))
    (fun os started H enc _ => ShapeNames.lifted os started H enc)

end Go.Proofs.Ytfjemjnbemdkgaa
