import Derived.Test.YtfjemjnbemdkgaaQ10
import Derived.Test.YtfjemjnbemdkgaaRows
import Derived.WalkKit
import Derived.ProofKit
import Derived.OpenShut
import Derived.ShutString
import Derived.ChangeOld
import Derived.Below
/-
  Functions that only look: memory that is read, whoever owns it.
-/
namespace Go.Eng
open Go.RowKit
set_option linter.unusedVariables false
set_option linter.unusedSimpArgs false
set_option linter.unnecessarySimpa false

/-- These cells can be read. -/
def RdAt (b : Nat) (cs : List PV) (μ : Mem) : Prop := ∃ T, μ b = some (.cells T cs) ∨ μ b = some (.ro T cs)
theorem RdAt.rd {b : Nat} {cs : List PV} {μ : Mem} (h : RdAt b cs μ) {o n : Nat} (hl : o + n ≤ cs.length) : rdM μ b o n = some ((cs.drop o).take n) := by
  obtain ⟨T, h | h⟩ := h
  · exact rdM_at h hl
  · exact rdM_ro h hl
theorem RdAt.row {b sz s : Nat} {R : List (List PV)} {rest r : List PV} {μ : Mem} (h : RdAt b (R.flatten ++ rest) μ) (hR : ∀ r ∈ R, r.length = sz) (hs : R[s]? = some r) : rdM μ b (s * sz) sz = some r := by
  obtain ⟨T, h | h⟩ := h
  · exact rdRow hR h hs
  · have := rdRow (μ := M0.set b (some (.cells T (R.flatten ++ rest)))) hR (Mem.set_same _ _ _) hs
    simp only [rdM, Mem.set_same] at this
    simp only [rdM, h]; exact this
theorem RdAt.some_ {b : Nat} {cs : List PV} {μ : Mem} (h : RdAt b cs μ) : μ b ≠ none := by
  obtain ⟨T, h | h⟩ := h <;> rw [h] <;> simp

/-- Nothing that was there turned. -/
def Grows (μ μ' : Mem) : Prop := ∀ b, μ b ≠ none → μ' b = μ b
theorem Grows.refl (μ : Mem) : Grows μ μ := fun _ _ => rfl
theorem Grows.trans {a b c : Mem} (h : Grows a b) (k : Grows b c) : Grows a c := fun x hx => by
  have e := h x hx
  rw [k x (by rw [e]; exact hx), e]
theorem Grows.new {μ : Mem} {b : Nat} (hb : μ b = none) (o : Option Ob) : Grows μ (μ.set b o) := fun x hx => Mem.set_ne _ _ (by rintro rfl; exact hx hb)
theorem Grows.upd {μ u : Mem} {b : Nat} (h : Grows μ u) (hb : μ b = none) (o : Option Ob) : Grows μ (u.set b o) := fun x hx => by
  rw [Mem.set_ne _ _ (by rintro rfl; exact hx hb)]; exact h x hx
theorem RdAt.grows {b : Nat} {cs : List PV} {μ μ' : Mem} (h : RdAt b cs μ) (hg : Grows μ μ') : RdAt b cs μ' := by
  obtain ⟨T, h⟩ := h
  refine ⟨T, ?_⟩
  rw [hg b (by rcases h with h | h <;> rw [h] <;> simp)]; exact h

/-- The same memory, not to be written. -/
def roM (μ : Mem) : Mem := fun b => match μ b with | some (.cells T cs) => some (.ro T cs) | some (.ro T cs) => some (.ro T cs) | _ => none
theorem roM_rd {μ : Mem} {b : Nat} {T : TypeId} {cs : List PV} (h : μ b = some (.cells T cs)) : RdAt b cs (roM μ) := ⟨T, .inr (by simp [roM, h])⟩

/-- What only looks may come up at any time. -/
theorem CallQ.ofRo {P : Program} {g : FuncId} {args : List PV} {μ : Mem} {K : PV → Mem → Prop} {Kq : PV → Prop} (h : CallP P g args (roM μ) fun p μ' => Grows (roM μ) μ' ∧ Kq p) (hk : ∀ p, Kq p → K p M0) : CallQ P g args μ K := fun Z u vs hg hw ha => by
  have hro : ∀ b o, roM μ b = some o → (o.rw = true → False) ∧ ObOk Z u b o ∧ Z b = none := fun b o ho => by
    unfold roM at ho
    split at ho
    · rename_i T cs hb
      cases ho
      obtain ⟨_, hz, hA⟩ := hg.mem b _ hb
      exact ⟨fun h => (by cases h), ⟨hz, hA⟩, hz⟩
    · rename_i T cs hb
      cases ho
      obtain ⟨_, hz, hA⟩ := hg.mem b _ hb
      exact ⟨fun h => (by cases h), ⟨hz, hA⟩, hz⟩
    · cases ho
  obtain ⟨hc, hcall⟩ := h Z ⟨u.toWorld, fun _ => False⟩ vs ⟨hg.zok, fun b o e => ⟨fun hr => (hro b o e).1 hr, by
    have := (hro b o e).2.1
    cases o with
    | cells T cs => exact this
    | tip n m => exact this
    | obj o F S => exact this
    | ro T cs => exact this⟩⟩ (fun _ h => h.elim) ha
  refine ⟨hc, hcall.mono' fun v lo w' _ _ hp => ?_⟩
  obtain ⟨Z', μ', p, e, g', hr, hgr, hK⟩ := hp
  refine ⟨Z', M0, p, ⟨e.le, fun b C hC _ => e.zs b C hC ?_, fun b hb => ?_, fun b hb => absurd rfl hb, e.lt⟩, ⟨g'.zok, fun b o h => by cases h⟩, hr, hk p hK⟩
  · cases hx : roM μ b with
    | none => rfl
    | some o => rw [(hro b o hx).2.2] at hC; cases hC
  · rcases e.zn b hb with h1 | h1 | h1
    · exact .inl h1
    · exfalso
      have hm := hgr b h1
      cases hx : roM μ b with
      | none => exact h1 hx
      | some o =>
        rw [hx] at hm
        have h2 := (g'.mem b o hm).2
        have h3 := (hro b o hx)
        unfold roM at hx
        split at hx
        · cases hx; exact hb h2.1
        · cases hx; exact hb h2.1
        · cases hx
    · exact .inr (.inr h1)

/-- A set that can be read. -/
def SetRd (sz b : Nat) (rows : List (List PV)) (μ : Mem) : Prop :=
  (∃ fl s, RdAt b [.list sz fl rows, pB s] μ) ∨ (rows = [] ∧ RdAt b [.raw (.slice none 0 0), pB false] μ) ∨
  ∃ b' c rest, RdAt b [.raw (.slice (some ⟨b', 0, none⟩) rows.length c), pB false] μ ∧ RdAt b' (rows.flatten ++ rest) μ
theorem SetRd.grows {sz b : Nat} {rows : List (List PV)} {μ μ' : Mem} (h : SetRd sz b rows μ) (hg : Grows μ μ') : SetRd sz b rows μ' := by
  rcases h with ⟨fl, s, h⟩ | ⟨e, h⟩ | ⟨b', c, rest, h1, h2⟩
  · exact .inl ⟨fl, s, h.grows hg⟩
  · exact .inr (.inl ⟨e, h.grows hg⟩)
  · exact .inr (.inr ⟨b', c, rest, h1.grows hg, h2.grows hg⟩)
theorem SetIn.ro {Ts e : TypeId} {sz : Nat} {μ : Mem} {b : Nat} {rows : List (List PV)} {F : List Nat} (h : SetIn Ts e sz μ b rows F) : SetRd sz b rows (roM μ) := by
  rcases h.lies with ⟨_, hm⟩ | ⟨_, rfl, hm⟩ | ⟨_, rfl, hm⟩ | ⟨b', c, rest, _, _, h1, h2, _⟩
  · exact .inl ⟨_, _, roM_rd hm⟩
  · exact .inl ⟨_, _, roM_rd hm⟩
  · exact .inr (.inl ⟨rfl, roM_rd hm⟩)
  · exact .inr (.inr ⟨b', c, rest, roM_rd h1, roM_rd h2⟩)
theorem SetAt.ro {Ts e : TypeId} {sz b : Nat} {rows : List (List PV)} {L : List Asn} {μ : Mem} (hO : Ow (SetAt Ts e sz b rows :: L) μ) : SetRd sz b rows (roM μ) := by
  obtain ⟨F, h, _⟩ := SetAt.split hO
  exact h.ro

/-! ### rows of a slice of one's own -/
theorem take_part {X : List PV} {sz o m : Nat} (h : o + m ≤ sz) : (X.drop o).take m = ((X.take sz).drop o).take m := by
  rw [List.drop_take, List.take_take, Nat.min_eq_left (by omega)]

theorem rdPart {cs r : List PV} {A sz o m : Nat} (hr : (cs.drop A).take sz = r) (h : o + m ≤ sz) : (cs.drop (A + o)).take m = (r.drop o).take m := by
  rw [← hr, ← take_part h, List.drop_drop]

theorem wrPart {cs r vs : List PV} {A sz o : Nat} (hA : A + sz ≤ cs.length) (hr : (cs.drop A).take sz = r) (h : o + vs.length ≤ sz) : wrL cs (A + o) vs = wrL cs A (wrL r o vs) := by
  have hrl : r.length = sz := by rw [← hr, List.length_take, List.length_drop]; omega
  unfold wrL
  have e1 : cs.take (A + o) = cs.take A ++ r.take o := by
    rw [List.take_add, ← hr, List.take_take, Nat.min_eq_left (by omega)]
  have e2 : cs.drop (A + o + vs.length) = r.drop (o + vs.length) ++ cs.drop (A + sz) := by
    have : cs.drop (A + o + vs.length) = (cs.drop A).drop (o + vs.length) := by rw [List.drop_drop]; congr 1; omega
    rw [this]
    have h2 : cs.drop A = r ++ cs.drop (A + sz) := by
      rw [← hr, ← List.drop_drop, List.take_append_drop]
    conv => lhs; rw [h2]
    rw [List.drop_append_of_le_length (by omega)]
  have e3 : (r.take o ++ vs ++ r.drop (o + vs.length)).length = sz := by
    simp only [List.length_append, List.length_take, List.length_drop]; omega
  rw [e1, e2, e3]
  simp

theorem Vec.at_ {e : TypeId} {sz n c : Nat} {a : Option Addr} {rows : List (List PV)} {L : List Asn} {μ : Mem} (i : Nat) (hO : Ow L μ) (hi : L[i]? = some (Vec e sz (.raw (.slice a n c)) rows)) (hr : ∀ r ∈ rows, r.length = sz) {j : Nat} (hj : j < rows.length) :
    ∃ b, a = some ⟨b, 0, none⟩ ∧ (∀ o m, o + m ≤ sz → rdM μ b (0 + j * sz + o) m = some ((rows[j].drop o).take m)) ∧
      ∀ (o : Nat) (vs : List PV) (K : Mem → Prop), o + vs.length ≤ sz → (∀ μ', Ow (L.set i (Vec e sz (.raw (.slice a n c)) (rows.set j (wrL rows[j] o vs)))) μ' → K μ') → stM b (0 + j * sz + o) vs μ K := by
  have hO1 := Ow.at i hi hO
  obtain ⟨F, hv, μ1, μ2, hs, e0, hF, hL⟩ := Vec.split hO1
  rcases hv with ⟨_, rfl, _⟩ | ⟨b, c', rest, hp, rfl, hm, hlen, hc⟩
  · simp at hj
  · simp only [PV.raw.injEq, Value.slice.injEq] at hp
    obtain ⟨rfl, rfl, rfl⟩ := hp
    have hfl : rows.flatten.length = rows.length * sz := flatLen hr
    have hle : j * sz + sz ≤ rows.length * sz := by rw [← Nat.succ_mul]; exact Nat.mul_le_mul_right _ hj
    have hrow : ((rows.flatten ++ rest).drop (j * sz)).take sz = rows[j] := by
      have := rdRow (s := j) hr hm (List.getElem?_eq_getElem hj)
      simp only [rdM, hm] at this
      split at this
      · simpa using this
      · cases this
    refine ⟨b, rfl, fun o m h => ?_, fun o vs K h hK => ?_⟩
    · have : rdM μ b (0 + j * sz + o) m = some (((rows.flatten ++ rest).drop (0 + j * sz + o)).take m) := by
        simp only [rdM, hm]
        rw [if_pos (by rw [List.length_append, hfl]; omega)]
      rw [this, Nat.zero_add, rdPart hrow h]
    · have hrl : rows[j].length = sz := hr _ (List.getElem_mem hj)
      have hwl : (wrL rows[j] o vs).length = sz := by
        unfold wrL
        simp only [List.length_append, List.length_take, List.length_drop]; omega
      refine ⟨_, _, hm, by rw [List.length_append, hfl]; omega, hK _ (Ow.back i (lt_of_get hi) ?_)⟩
      rw [Nat.zero_add, wrPart (by rw [List.length_append, hfl]; omega) hrow h, wrRow hr hj hwl]
      refine Ow.mv (A := fun _ => True) (F := [b]) (F' := [b]) ⟨μ1, μ2, hs, e0, hF, hL⟩ ((Mv.set (.inl (by simp))).sub (by simp)) fun ν hν => ⟨[b], .inr ⟨b, c, rest, by simp, rfl, ?_, by simpa using hlen, by simpa using hc⟩⟩
      rw [hν b (by simp), Mem.set_same]

theorem Vec.len {e : TypeId} {sz n c : Nat} {a : Option Addr} {rows : List (List PV)} {L : List Asn} {μ : Mem} (i : Nat) (hO : Ow L μ) (hi : L[i]? = some (Vec e sz (.raw (.slice a n c)) rows)) : n = rows.length := by
  obtain ⟨F, hv, _⟩ := Vec.split (Ow.at i hi hO)
  rcases hv with ⟨hp, rfl, _⟩ | ⟨b, c', rest, hp, _⟩
  · simp only [PV.raw.injEq, Value.slice.injEq] at hp; simp [hp.2.1]
  · simp only [PV.raw.injEq, Value.slice.injEq] at hp; exact hp.2.1

end Go.Eng

/-
  Sequences that hand out memory of one's own.
-/
namespace Go.Eng
open Go.RowKit
set_option linter.unusedVariables false
set_option linter.unusedSimpArgs false
set_option linter.unnecessarySimpa false

/-- Calling f with a function y calls y with values of which these hold (with memory that goes to y), one behind the other, till it says no. -/
def SeqW (P : Program) (f : PV) (items : List (List PV → Asn)) (A A' : Asn) : Prop :=
  (∃ g a b, f = .fn (.func g) a b) ∧ ∀ (fy : Fn) (ya yb : List PV) (I : Nat → Asn) (S : Asn) (C : Asn) (μ : Mem), fnOk fy True → Ow [A, C] μ → (∀ μ', Ow [A', C] μ' → Ow [I 0] μ') →
    (∀ (k : Nat) (h : k < items.length) (vs : List PV) (μ : Mem), Ow [items[k] vs, I k] μ → CallVP P (.fn fy ya yb) vs μ fun v μ' => (v = pB true ∧ Ow [I (k + 1)] μ') ∨ (v = pB false ∧ Ow [S] μ')) →
    CallVP P f [.fn fy ya yb] μ fun _ μ' => Ow [I items.length] μ' ∨ Ow [S] μ'

theorem SeqW.mk {P : Program} {g : FuncId} {a b : List PV} {items : List (List PV → Asn)} {A A' : Asn}
    (h : ∀ (fy : Fn) (ya yb : List PV) (I : Nat → Asn) (S : Asn) (C : Asn) (μ : Mem), fnOk fy True → Ow [A, C] μ → (∀ μ', Ow [A', C] μ' → Ow [I 0] μ') →
      (∀ (k : Nat) (h : k < items.length) (vs : List PV) (μ : Mem), Ow [items[k] vs, I k] μ → CallVP P (.fn fy ya yb) vs μ fun v μ' => (v = pB true ∧ Ow [I (k + 1)] μ') ∨ (v = pB false ∧ Ow [S] μ')) →
      CallP P g (a ++ [.fn fy ya yb] ++ b) μ fun _ μ' => Ow [I items.length] μ' ∨ Ow [S] μ') : SeqW P (.fn (.func g) a b) items A A' :=
  ⟨⟨g, a, b, rfl⟩, fun fy ya yb I S C μ hy h0 h1 hstep => h fy ya yb I S C μ hy h0 h1 hstep⟩

theorem RangeP.ownW {P : Program} {f : PV} {items : List (List PV → Asn)} {A A' : Asn} {L : List Asn} {body : List PV → (Option Code → Mem → Prop) → Mem → Prop} {K : Option Code → Mem → Prop} {μ : Mem} (hs : SeqW P f items A A') (hO : Ow (A :: L) μ)
    (I : Nat → Asn) (S : Code → Asn) (hI : ∀ k, UpC (I k)) (hS : ∀ c, UpC (S c)) (h0 : ∀ μ', Ow (A' :: L) μ' → I 0 μ')
    (hstep : ∀ (k : Nat) (h : k < items.length) (vs : List PV) (μ : Mem) (R : Option Code → Mem → Prop), Ow [items[k] vs, I k] μ → (∀ μ', I (k + 1) μ' → R none μ') → (∀ c μ', S c μ' → R (some c) μ') → body vs R μ)
    (hend : ∀ μ, I items.length μ → K none μ) (hstop : ∀ c μ, S c μ → K (some c) μ) : RangeP P f body K μ := by
  obtain ⟨hf, hs⟩ := hs
  refine ⟨hf, fun l rec hl hy => ?_⟩
  have cut : ∀ {ν : Mem} {o : Ob} {M : List Asn}, Ow (Rc l o :: M) ν → ν l = some o ∧ Ow M (ν.set l none) := fun {ν o M} h => by
    obtain ⟨ν1, ν2, hsep, rfl, hR, hM⟩ := h
    refine ⟨Mem.or_left hR, hM.mono fun b o' hb => ?_⟩
    have hb1 : ν1 b = none := (hsep b).resolve_right (by rw [hb]; simp)
    have hne : b ≠ l := by
      rintro rfl
      have : ν1 b = _ := hR
      rw [this] at hb1; cases hb1
    rw [Mem.set_ne _ _ hne, Mem.or_right hb1]; exact hb
  have glue : ∀ {ν : Mem} {o : Ob}, ν l = some o → ν = (ν.set l none).set l (some o) := fun {ν o} h => by
    rw [Mem.set_set, Mem.set_self h]
  have lift : ∀ {ν μ3 : Mem} {o : Ob} {ν1 ν2 : Mem}, μ3 l = none → ν1 = μ3.set l (some o) → Mem.sep ν1 ν2 → ν = ν1.or ν2 → ν l = some o ∧ ∀ b o', μ3 b = some o' → (ν.set l none) b = some o' := fun {ν μ3 o ν1 ν2} h1 h2 hsep e => by
    subst h2 e
    refine ⟨Mem.or_left (Mem.set_same _ _ _), fun b o' hb => ?_⟩
    have hne : b ≠ l := by rintro rfl; rw [h1] at hb; cases hb
    rw [Mem.set_ne _ _ hne]
    exact Mem.or_left (by rw [Mem.set_ne _ _ hne]; exact hb)
  refine (hs (.yield l) [] [] (fun k ν => ∃ μ3, μ3 l = none ∧ ν = μ3.set l (some (rec none)) ∧ I k μ3) (fun ν => ∃ c μ3, μ3 l = none ∧ ν = μ3.set l (some (rec (some c))) ∧ S c μ3) (Ow (Rc l (rec none) :: L)) _ trivial ?_ (fun μ' hO' => Ow.one ?_) ?_).mono ?_
  · have h1 : Ow (Rc l (rec none) :: A :: L) (μ.set l (some (rec none))) := by
      refine ⟨M0.set l (some (rec none)), μ, fun x => ?_, ?_, Mem.set_same _ _ _, hO⟩
      · by_cases e : x = l
        · subst e; exact .inr hl
        · rw [Mem.set_ne _ _ e]; exact .inl rfl
      · funext x
        by_cases e : x = l
        · subst e; rw [Mem.set_same, Mem.or_left (Mem.set_same _ _ _)]
        · rw [Mem.set_ne _ _ e, Mem.or_right (by rw [Mem.set_ne _ _ e]; rfl)]
    refine h1.swap.tail fun ν hν => Ow.one hν
  · have h1 : Ow (A' :: (Rc l (rec none) :: L)) μ' := hO'.tail fun ν hν => hν.ones
    obtain ⟨h2, h3⟩ := cut h1.swap
    exact ⟨_, Mem.set_same _ _ _, glue h2, h0 _ h3⟩
  · rintro k hk vs ν ⟨ν1, ν2, hsep, e, hit, ν3, ν4, hsep2, e2, ⟨μ3, h1, h2, hIk⟩, _⟩
    obtain ⟨h4, h5⟩ := lift h1 h2 hsep2 e2
    have hn1 : ν1 l = none := (hsep l).resolve_right (by rw [h4]; simp)
    have hνl : ν l = some (rec none) := by rw [e, Mem.or_right hn1]; exact h4
    have hO' : Ow [items[k] vs, I k] (ν.set l none) := by
      refine ⟨ν1, ν2.set l none, fun x => ?_, ?_, hit, Ow.one (hI k _ _ h5 hIk)⟩
      · by_cases ex : x = l
        · subst ex; exact .inr (Mem.set_same _ _ _)
        · rw [Mem.set_ne _ _ ex]; exact hsep x
      · funext x
        by_cases ex : x = l
        · subst ex; rw [Mem.set_same, Mem.or_right hn1, Mem.set_same]
        · rw [Mem.set_ne _ _ ex, e]
          cases hx : ν1 x with
          | some o => rw [Mem.or_left hx, Mem.or_left hx]
          | none => rw [Mem.or_right hx, Mem.or_right hx, Mem.set_ne _ _ ex]
    rw [glue hνl]
    refine (hy vs (ν.set l none) (fun p μ' => match p with | none => I (k + 1) μ' | some c => S c μ') (Mem.set_same _ _ _) (hstep k hk vs _ _ hO' (fun μ' h => h) (fun c μ' h => h))).mono ?_
    rintro v μ2 ⟨p, μ4, rfl, h3, rfl, hR⟩
    cases p with
    | none => exact .inl ⟨rfl, Ow.one ⟨μ4, h3, rfl, hR⟩⟩
    | some c => exact .inr ⟨rfl, Ow.one ⟨c, μ4, h3, rfl, hR⟩⟩
  · rintro v ν (h | h)
    · obtain ⟨ν1, ν2, hsep, e, ⟨μ3, h1, h2, h3⟩, _⟩ := h
      obtain ⟨h4, h5⟩ := lift h1 h2 hsep e
      exact ⟨none, ν.set l none, Mem.set_same _ _ _, glue h4, hend _ (hI _ _ _ h5 h3)⟩
    · obtain ⟨ν1, ν2, hsep, e, ⟨c, μ3, h1, h2, h3⟩, _⟩ := h
      obtain ⟨h4, h5⟩ := lift h1 h2 hsep e
      exact ⟨some c, ν.set l none, Mem.set_same _ _ _, glue h4, hstop c _ (hS _ _ _ h5 h3)⟩

/-- A list, in a new slice of one's own. -/
theorem appR_mk {e : TypeId} {sz bytes : Nat} {f : Fl} {rows : List (List PV)} {L : List Asn} {μ : Mem} {K : Option Addr → Nat → Nat → Mem → Prop} (hO : Ow L μ) (hr : ∀ r ∈ rows, r.length = sz) (hc : allCell rows.flatten = true) (hb : rows.length * bytes ≤ 140737488355328) (h62 : rows.length < 4611686018427387904)
    (hk : ∀ a c μ', Ow (Vec e sz (.raw (.slice a rows.length c)) rows :: L) μ' → K a rows.length c μ') : appR sz bytes e none 0 0 (.list sz f rows) μ K := by
  have okr : okSz sz sz rows = true := by simp [okSz, Nat.beq_refl]
  unfold appR newC
  simp only [okr, cond_true, Nat.zero_add]
  refine ⟨hb, h62, Nat.le_refl _, ?_⟩
  cases rows with
  | nil => exact .inl ⟨rfl, fun h => absurd rfl h, hk none 0 μ (Vec.nil e sz hO)⟩
  | cons r rs =>
    refine .inr ⟨by simp, hc, fun h => by simp at h, fun _ => ⟨[], .inl ⟨trivial, rfl⟩, fun b' c' hn hc' => ?_⟩⟩
    rw [List.nil_append]
    refine hk _ c' _ ?_
    have hfl : (r :: rs).flatten.length = (r :: rs).length * sz := flatLen hr
    refine (hO.new e _ hn).imp fun ν hν => ⟨[b'], .inr ⟨b', c', _, rfl, rfl, hν, ?_, hc'⟩⟩
    rw [List.length_replicate, ← Nat.add_mul]; congr 1; omega

theorem Vec.view {e : TypeId} {sz : Nat} {p : PV} {rows : List (List PV)} {L : List Asn} {μ : Mem} (i : Nat) (hO : Ow L μ) (hi : L[i]? = some (Vec e sz p rows)) (hr : ∀ r ∈ rows, r.length = sz) (hc : allCell rows.flatten = true) : BorV μ p (.list sz .sh rows) := by
  obtain ⟨F, h, _⟩ := Vec.split (Ow.at i hi hO)
  exact h.view hr hc

/-- A block of one's own that is frozen for good: a captured variable. -/
theorem frzPtr {Z : Fz} {u : UW} {μ : Mem} {b : Nat} {T : TypeId} {cs : List PV} {r : Value} (hg : Good Z u μ) (hb : μ b = some (.cells T cs)) (hc : allCell cs = true) (hr : Rep Z (pP b 0) r) : Rep (Zbor Z u fun x => if x ∈ [b] then μ x else none) (.fptr cs 0) r := by
  have gs : Good Z u (fun x => if x ∈ [b] then μ x else none) := hg.sub fun x o hx => by
    by_cases hm : x ∈ [b]
    · simpa [hm] using hx
    · simp [hm] at hx
  obtain ⟨A, hz, hm⟩ := Zbor_at (cs := cs) gs (b := b) (by simp [hb, cellsOf])
  rw [hr.ofRaw.1]
  have hm2 := (hm.mono (Zbor_le gs)).c hc
  refine .fptr cs 0 b 0 A.toList (fun j => (A.toList[j]?).getD undef) hz (fun j hj => ?_) (fun j p hp => ?_) (fun j p hp => ?_)
  · have hlt : j < A.toList.length := by rw [hm.1]; exact hj
    rw [Nat.zero_add, List.getElem?_eq_getElem hlt]; rfl
  · exact List.all_eq_true.1 hc p (List.mem_of_getElem? hp)
  · have hlt : j < A.toList.length := by rw [hm.1]; exact (List.getElem?_eq_some_iff.1 hp).1
    have := hm2.2 j p A.toList[j] hp (List.getElem?_eq_getElem hlt)
    simp only [List.getElem?_eq_getElem hlt, Option.getD_some]; exact this.2

theorem Vec.cellsAt {e : TypeId} {sz n c : Nat} {a : Option Addr} {rows : List (List PV)} {L : List Asn} {μ : Mem} (i : Nat) (hO : Ow L μ) (hi : L[i]? = some (Vec e sz (.raw (.slice a n c)) rows)) (h0 : rows ≠ []) : ∃ b rest, a = some ⟨b, 0, none⟩ ∧ n = rows.length ∧ μ b = some (.cells e (rows.flatten ++ rest)) ∧ n ≤ c := by
  obtain ⟨F, hv, _⟩ := Vec.split (Ow.at i hi hO)
  rcases hv with ⟨_, rfl, _⟩ | ⟨b, c', rest, hp, _, hm, _, hc⟩
  · exact absurd rfl h0
  · simp only [PV.raw.injEq, Value.slice.injEq] at hp
    obtain ⟨rfl, rfl, rfl⟩ := hp
    exact ⟨b, rest, rfl, rfl, hm, hc⟩

/-- A part of a slice of one's own, as it reads. -/
theorem Vec.part {e : TypeId} {sz n c : Nat} {a : Option Addr} {rows : List (List PV)} {L : List Asn} {μ : Mem} (i : Nat) (hO : Ow L μ) (hi : L[i]? = some (Vec e sz (.raw (.slice a n c)) rows)) (hr : ∀ r ∈ rows, r.length = sz) (hc : allCell rows.flatten = true) (lo : Nat) (hlo : lo < rows.length) :
    SlM μ (slA a lo c sz) (n - lo) (c - lo) sz (rows.drop lo) := by
  obtain ⟨b, rest, rfl, rfl, hm, hle⟩ := Vec.cellsAt i hO hi (by intro h; rw [h] at hlo; simp at hlo)
  have hfl : rows.flatten.length = rows.length * sz := flatLen hr
  have hfd : (rows.drop lo).flatten.length = (rows.length - lo) * sz := by rw [flatLen (sz := sz) fun r h => hr r (List.mem_of_mem_drop h), List.length_drop]
  have hsl : slA (some ⟨b, 0, none⟩) lo c sz = some ⟨b, 0 + lo * sz, none⟩ := by unfold slA; rw [if_neg (by omega)]; rfl
  refine ⟨by rw [List.length_drop], by omega, .inr fun x hx => ?_, fun r h => hr r (List.mem_of_mem_drop h), ?_, fun _ => ⟨b, 0 + lo * sz, hsl, ?_⟩⟩
  · rw [hsl] at hx; cases hx; rfl
  · rw [← flat_drop hr (Nat.le_of_lt hlo)]
    refine List.all_eq_true.2 fun x hx => List.all_eq_true.1 hc x (List.mem_of_mem_drop hx)
  · have h1 : lo * sz + (rows.length - lo) * sz = rows.length * sz := by rw [← Nat.add_mul]; congr 1; omega
    simp only [rdM, hm]
    rw [if_pos (by rw [List.length_append, hfl]; omega), Nat.zero_add, List.drop_append_of_le_length (by rw [hfl]; omega), List.take_append_of_le_length (by rw [List.length_drop, hfl]; omega), flat_drop hr (Nat.le_of_lt hlo), List.take_of_length_le (by rw [hfd]; omega)]

/-- One row in a new block, as a slice of one's own. -/
theorem Ow.vec1 {L : List Asn} {μ : Mem} {b : Nat} {e : TypeId} {row : List PV} {sz : Nat} (h : Ow (Pt b e row :: L) μ) (hl : row.length = sz) : Ow (Vec e sz (.raw (.slice (some ⟨b, 0, none⟩) 1 1)) [row] :: L) μ :=
  h.imp fun ν hν => ⟨[b], .inr ⟨b, 1, [], rfl, rfl, by rw [show ν b = _ from hν]; simp, by simp, Nat.le_refl _⟩⟩

/-! ### what is one's own, seen as it reads -/
def Mem.inc (ν μ : Mem) : Prop := ∀ b o, ν b = some o → μ b = some o
theorem Mem.inc.refl (μ : Mem) : Mem.inc μ μ := fun _ _ h => h
theorem rdM_inc {ν μ : Mem} (h : Mem.inc ν μ) {b o n : Nat} {cs : List PV} (hr : rdM ν b o n = some cs) : rdM μ b o n = some cs := by
  unfold rdM at hr ⊢
  cases hb : ν b with
  | none => rw [hb] at hr; cases hr
  | some ob => rw [hb] at hr; rw [h b ob hb]; exact hr
theorem BorV.inc {ν μ : Mem} (h : Mem.inc ν μ) {c d : PV} (hb : BorV ν c d) : BorV μ c d := by
  induction hb with
  | same c => exact .same c
  | wk c => exact .wk c
  | nil sz rows => exact .nil sz rows
  | lst0 a k sz spot => exact .lst0 a k sz spot
  | lst b o k sz rows cs cap each cell read _ ih => exact .lst b o k sz rows cs cap each cell (rdM_inc h read) ih
  | agg hl cell _ ih => exact .agg hl cell ih
  | tup hl ok _ ih => exact .tup hl ok ih
theorem BorL.inc {ν μ : Mem} (h : Mem.inc ν μ) {cs ds : List PV} (hb : BorL ν cs ds) : BorL μ cs ds := ⟨hb.1, fun i c d h1 h2 => (hb.2 i c d h1 h2).inc h⟩
theorem BorL.append {μ : Mem} {cs ds cs' ds' : List PV} (h : BorL μ cs ds) (k : BorL μ cs' ds') : BorL μ (cs ++ cs') (ds ++ ds') := by
  refine ⟨by rw [List.length_append, List.length_append, h.1, k.1], fun i c d h1 h2 => ?_⟩
  by_cases hi : i < cs.length
  · rw [List.getElem?_append_left hi] at h1
    rw [List.getElem?_append_left (by rw [← h.1]; exact hi)] at h2
    exact h.2 i c d h1 h2
  · rw [List.getElem?_append_right (by omega)] at h1
    rw [List.getElem?_append_right (by rw [← h.1]; omega), ← h.1] at h2
    exact k.2 _ c d h1 h2
theorem BorL.flat {T : Type} {μ : Mem} {f g : T → List PV} : ∀ {X : List T}, (∀ x ∈ X, BorL μ (f x) (g x)) → BorL μ (X.map f).flatten (X.map g).flatten
  | [], _ => BorL.nil μ
  | x :: X, h => by
    simp only [List.map_cons, List.flatten_cons]
    exact (h x (by simp)).append (BorL.flat fun y hy => h y (by simp [hy]))

theorem Ow.mem : ∀ {L : List Asn} {μ : Mem}, Ow L μ → ∀ A ∈ L, ∃ ν, A ν ∧ Mem.inc ν μ
  | [], _, _, A, hA => by cases hA
  | B :: L, μ, h, A, hA => by
    obtain ⟨μ1, μ2, hs, rfl, hB, hL⟩ := h
    rcases List.mem_cons.1 hA with rfl | hA
    · exact ⟨μ1, hB, fun b o hb => Mem.or_left hb⟩
    · obtain ⟨ν, h1, h2⟩ := Ow.mem hL A hA
      refine ⟨ν, h1, fun b o hb => ?_⟩
      have hb2 := h2 b o hb
      rw [Mem.or_right ((hs b).resolve_right (by rw [hb2]; simp))]; exact hb2

theorem Vec.raw {e : TypeId} {sz : Nat} {p : PV} {rows : List (List PV)} {μ : Mem} (h : Vec e sz p rows μ) : ∃ a c, p = .raw (.slice a rows.length c) := by
  obtain ⟨F, h⟩ := h
  rcases h with ⟨rfl, rfl, _⟩ | ⟨b, c, rest, rfl, _⟩
  · exact ⟨none, 0, rfl⟩
  · exact ⟨_, c, rfl⟩
theorem Vec.rawO {e : TypeId} {sz : Nat} {p : PV} {rows : List (List PV)} {L : List Asn} {μ : Mem} (h : Ow (Vec e sz p rows :: L) μ) : ∃ a c, p = .raw (.slice a rows.length c) := h.fact fun _ hv => Vec.raw hv

/-- A slice of one's own whose cells are one's own again: as a list. -/
theorem Vec.deep {T : Type} {e : TypeId} {sz : Nat} {p : PV} {f g : T → List PV} {X : List T} {ν μ : Mem} (hv : Vec e sz p (X.map f) ν) (hi : Mem.inc ν μ) (hf : ∀ x ∈ X, (f x).length = sz) (hg : ∀ x ∈ X, (g x).length = sz) (hc : ∀ x ∈ X, allCell (g x) = true) (h : ∀ x ∈ X, BorL μ (f x) (g x)) : BorV μ p (.list sz .sh (X.map g)) := by
  obtain ⟨F, hv⟩ := hv
  have hfl : ∀ r ∈ X.map f, r.length = sz := fun r hr => by obtain ⟨x, hx, rfl⟩ := List.mem_map.1 hr; exact hf x hx
  have hgl : ∀ r ∈ X.map g, r.length = sz := fun r hr => by obtain ⟨x, hx, rfl⟩ := List.mem_map.1 hr; exact hg x hx
  rcases hv with ⟨rfl, h0, _⟩ | ⟨b, c, rest, rfl, _, hm, hlen, hle⟩
  · have : X = [] := by cases X with | nil => rfl | cons x X => simp at h0
    subst this
    exact .lst0 none 0 sz (.inl rfl)
  · have hfl2 : (X.map f).flatten.length = (X.map f).length * sz := flatLen hfl
    have hln : (X.map f).length = (X.map g).length := by simp
    rw [hln]
    refine .lst b 0 c sz (X.map g) (X.map f).flatten (by rw [← hln]; exact hle) hgl ?_ ?_ fun i c d h1 h2 => (BorL.flat h).2 i c d h1 h2
    · refine List.all_eq_true.2 fun x hx => ?_
      obtain ⟨r, hr, hx⟩ := List.mem_flatten.1 hx
      obtain ⟨y, hy, rfl⟩ := List.mem_map.1 hr
      exact List.all_eq_true.1 (hc y hy) x hx
    · have hmm := hi b _ hm
      rw [← hln]
      simp only [rdM, hmm]
      rw [if_pos (by simp [hfl2]), List.drop_zero, ← hfl2, List.take_left']
      rfl

/-- What is one's own is handed over for good: each argument as it is read then. -/
theorem CallP.give {P : Program} {g : FuncId} {args args' : List PV} {μ : Mem} {K : PV → Mem → Prop} {Kp : PV → Prop} (h : PureK P g args' Kp) (hl : args.length = args'.length) (hb : ∀ (i : Nat) p q, args[i]? = some p → args'[i]? = some q → BorV μ p q ∧ q.ok = true) (hk : ∀ p, Kp p → K p M0) : CallP P g args μ K := fun Z u vs hg hw ha => by
  have ha' : Reps (Zbor Z u μ) args' vs := ⟨ha.1.trans hl, fun i q v hq hv => by
    have hlt : i < args.length := by rw [hl]; exact (List.getElem?_eq_some_iff.1 hq).1
    have hp : args[i]? = some args[i] := List.getElem?_eq_getElem hlt
    obtain ⟨h1, h2⟩ := hb i _ q hp hq
    exact ⟨h2, h1.rep hg (ha.2 i _ v hp hv).2⟩⟩
  obtain ⟨hc, F, hF, hcall⟩ := h (Zbor Z u μ) ⟨u.toWorld, fun _ => False⟩ vs ⟨Zbor_zok hg, fun b o h => by cases h⟩ (fun _ h => h.elim) ha'
  refine ⟨hc, F, fun b hb => (hF b hb).elim, hcall.mono fun v lo w' hm hlo hp => ?_⟩
  obtain ⟨Z', μ', p, e, g', hr, hK⟩ := hp
  have e0 : Ext Z μ u.heap.size (Zbor Z u μ) M0 := by
    refine ⟨Zbor_le hg, fun b C hC hn => ?_, fun b hb => ?_, fun b hb => absurd rfl hb, fun _ h' => hg.ltZ h'⟩
    · rw [Zbor_none hn]; exact hC
    · cases hx : μ b with
      | none => rw [Zbor_none hx] at hb; exact .inl hb
      | some o => exact .inr (.inl (by simp))
  exact ⟨Z', M0, p, e0.trans (e.sub fun b o h => by cases h) (Nat.le_refl _), ⟨g'.zok, fun b o h => by cases h⟩, hr, hk p hK⟩

end Go.Eng

/-
  The law ShapeInside.
-/
namespace Go.Proofs.Ytfjemjnbemdkgaa
open Go.Eng Go.RowKit
set_option linter.unusedVariables false
set_option linter.unusedSimpArgs false
set_option linter.unnecessarySimpa false

abbrev CVec (p : PV) (l : List Cond) : Asn := Vec 37 7 p (l.map Cond.pv)
abbrev AVec (p : PV) (l : List Actn) : Asn := Vec 45 19 p (l.map Actn.pv)
theorem cvLen (l : List Cond) : ∀ r ∈ l.map Cond.pv, r.length = 7 := fun r hr => by
  obtain ⟨c, _, rfl⟩ := List.mem_map.1 hr; rw [Cond.pv_eq]; rfl
theorem cvCell (l : List Cond) : allCell (l.map Cond.pv).flatten = true := rowsCellK (pv := Cond.pv) (fun c => by rw [Cond.pv_eq]; rfl) l
theorem avLen (l : List Actn) : ∀ r ∈ l.map Actn.pv, r.length = 19 := rowsLenK (pv := Actn.pv) (fun _ => rfl) l
theorem avCell (l : List Actn) : allCell (l.map Actn.pv).flatten = true := rowsCellK (pv := Actn.pv) (fun _ => rfl) l

theorem cOneO {L : List Asn} {μ : Mem} (hO : Ow L μ) {R : PV → Mem → Prop} (hk : ∀ μ' a b, Ow (CVec (.raw (.slice a 1 1)) [oneC true] :: AVec (.raw (.slice b 1 1)) [oneA] :: L) μ' → R (.agg [pS ⟨#[97]⟩, .raw (.slice a 1 1), .raw (.slice b 1 1)]) μ') : CallP Try.prog 19 [] μ R := by
  refine G_ponderlaw06_One.c ?_
  refine (cW _).call ⟨_, _, _, rfl, (cN _).call ⟨_, _, _, rfl, fun b hb => (cW _).call ⟨_, _, _, rfl, (cN _).call ⟨_, _, _, rfl, fun c hc => ?_⟩⟩⟩⟩
  have h1 := ((hO.new 37 _ hb).new 45 oneA.pv hc)
  have h2 := h1.swap.imp (B := Pt b 37 (oneC true).pv) fun ν hν => by show ν b = _; rw [Cond.pv_eq]; exact hν
  exact hk _ _ _ ((h2.vec1 (by rw [Cond.pv_eq]; rfl)).tail fun _ h => h.vec1 rfl)

/-- What a production of one's own says to Check. -/
theorem cCheckO {L : List Asn} {μ : Mem} (i j : Nat) {a b : Option Addr} {n1 n2 c1 c2 : Nat} (p : Prod) (hO : Ow L μ) (hi : L[i]? = some (CVec (.raw (.slice a n1 c1)) p.conds)) (hj : L[j]? = some (AVec (.raw (.slice b n2 c2)) p.acts)) (hl : lightL p.conds) (hs : sizeL p.conds ≤ 1000000) (ha : p.acts.length ≤ 1000000) {R : PV → Mem → Prop} (hk : R (.tup [pI (checkE p).1, pI (checkE p).2.1]) μ) :
    CallP Try.prog 16 [.agg [pS p.name, .raw (.slice a n1 c1), .raw (.slice b n2 c2)]] μ R := by
  refine CallP.view (cCheck .sh .sh p hl hs ha) rfl (fun k x y hx hy => ?_) (fun p hp => by rw [hp]; rfl) (fun p hp => by rw [hp]; exact hk)
  cases k with
  | succ k => simp at hx
  | zero =>
    simp only [List.getElem?_cons_zero, Option.some.injEq] at hx hy
    subst hx hy
    refine ⟨.agg rfl rfl fun k x y hx hy => ?_, rfl⟩
    match k with
    | 0 => simp at hx hy; subst hx hy; exact .same _
    | 1 => simp at hx hy; subst hx hy; exact Vec.view i hO hi (cvLen _) (cvCell _)
    | 2 => simp at hx hy; subst hx hy; exact Vec.view j hO hj (avLen _) (avCell _)
    | k + 3 => simp at hx

def qT (c : UInt8) : List Test := [⟨1, ⟨#[]⟩, ⟨3, ⟨#[c]⟩, 0⟩, []⟩]
def vT (rel : Int) : List Test := [⟨rel, ⟨#[118]⟩, ⟨0, ⟨#[]⟩, 0⟩, []⟩]
def posIn (k : Int) : Cond := .mk k false ⟨#[115]⟩ (qT 112) (vT 1) false []
/-- What stands in the middle. -/
def insC : Nat → Cond
  | 0 => posIn 2
  | 1 => .mk 3 false ⟨#[]⟩ [] [] false [posIn 1]
  | _ => posIn 1
/-- The last condition, the action, one more for the place, the error. -/
def useC : Nat → Cond × Actn × Int × Int
  | 0 => (.mk 1 false ⟨#[118]⟩ (qT 113) [] false [], oneA, 0, 6)
  | 1 => (.mk 1 false ⟨#[115]⟩ (qT 113) (vT 2) false [], oneA, 0, 6)
  | 2 => (.mk 1 false ⟨#[115]⟩ (qT 113) (vT 1) false [], oneA, 0, 0)
  | _ => (.mk 1 false ⟨#[115]⟩ (qT 113) [] false [], { oneA with attr := ⟨⟨#[118]⟩, ⟨0, ⟨#[]⟩, 0⟩⟩ }, 1, 6)
def insP (i j : Nat) : Prod := ⟨⟨#[97]⟩, [oneC true, insC i, (useC j).1], [(useC j).2.1]⟩

def insOk (i j : Nat) : Bool :=
  let w := if (insC i).kind = 1 then 0 else (useC j).2.2.2
  let r := checkE (insP i j)
  if w = 0 then decide (r.1 = -1 ∧ r.2.1 = 0) else decide (r.1 = 1 + sizeL [insC i] + (useC j).2.2.1 ∧ r.2.1 = w)

theorem ins00 : insOk 0 0 = true := by kernel_rfl
theorem ins01 : insOk 0 1 = true := by kernel_rfl
theorem ins02 : insOk 0 2 = true := by kernel_rfl
theorem ins03 : insOk 0 3 = true := by kernel_rfl
theorem ins10 : insOk 1 0 = true := by kernel_rfl
theorem ins11 : insOk 1 1 = true := by kernel_rfl
theorem ins12 : insOk 1 2 = true := by kernel_rfl
theorem ins13 : insOk 1 3 = true := by kernel_rfl
theorem ins20 : insOk 2 0 = true := by kernel_rfl
theorem ins21 : insOk 2 1 = true := by kernel_rfl
theorem ins22 : insOk 2 2 = true := by kernel_rfl
theorem ins23 : insOk 2 3 = true := by kernel_rfl
theorem insAll : ∀ i, i < 3 → ∀ j, j < 4 → insOk i j = true := by
  intro i hi j hj
  match i, hi, j, hj with
  | 0, _, 0, _ => exact ins00
  | 0, _, 1, _ => exact ins01
  | 0, _, 2, _ => exact ins02
  | 0, _, 3, _ => exact ins03
  | 1, _, 0, _ => exact ins10
  | 1, _, 1, _ => exact ins11
  | 1, _, 2, _ => exact ins12
  | 1, _, 3, _ => exact ins13
  | 2, _, 0, _ => exact ins20
  | 2, _, 1, _ => exact ins21
  | 2, _, 2, _ => exact ins22
  | 2, _, 3, _ => exact ins23

abbrev CT := Int × Bool × ByteArray × (Fl × List (List PV)) × (Fl × List (List PV)) × Bool × (Fl × List (List PV))
/-- These cells are a condition's. -/
structure IsC (s : CT) (c : Cond) : Prop where
  h1 : s.1 = c.kind
  h2 : s.2.1 = c.goal
  h3 : s.2.2.1 = c.id
  h4 : s.2.2.2.1.2 = c.attr.map Test.pv
  h5 : s.2.2.2.2.1.2 = c.value.map Test.pv
  h6 : s.2.2.2.2.2.1 = c.acc
  h7 : s.2.2.2.2.2.2.2 = c.conds.map Cond.pv
theorem IsC.row {s : CT} {c : Cond} (h : IsC s c) : [pI s.1, pB s.2.1, pS s.2.2.1, .list 6 .sh s.2.2.2.1.2, .list 6 .sh s.2.2.2.2.1.2, pB s.2.2.2.2.2.1, .list 7 .sh s.2.2.2.2.2.2.2] = c.pv := by
  rw [Cond.pv_eq, h.h1, h.h2, h.h3, h.h4, h.h5, h.h6, h.h7]

theorem posIn_light (k : Int) : lightC (posIn k) := by
  refine (lightC_eq _).2 ⟨by show (⟨#[115]⟩ : ByteArray).size ≤ 100; decide, by show 1 ≤ 40; decide, by show 1 ≤ 40; decide, ?_, ?_, trivial⟩
  · intro t ht; simp [posIn, Cond.attr, qT] at ht; subst ht; exact ⟨by decide, by decide, by decide⟩
  · intro t ht; simp [posIn, Cond.value, vT] at ht; subst ht; exact ⟨by decide, by decide, by decide⟩
theorem insC_light (i : Nat) : lightC (insC i) := by
  match i with
  | 0 => exact posIn_light 2
  | 1 => exact (lightC_eq _).2 ⟨by show (⟨#[]⟩ : ByteArray).size ≤ 100; decide, by show 0 ≤ 40; decide, by show 0 ≤ 40; decide, (by intro t ht; cases ht), (by intro t ht; cases ht), ⟨posIn_light 1, trivial⟩⟩
  | i + 2 => exact posIn_light 1
theorem insC_size (i : Nat) : sizeL [insC i] ≤ 2 := by
  match i with
  | 0 => simp [insC, posIn, sizeL, sizeC]
  | 1 => simp [insC, posIn, sizeL, sizeC]
  | i + 2 => simp [insC, posIn, sizeL, sizeC]
theorem qT_light (c : UInt8) : ∀ t ∈ qT c, lightT t := by
  intro t ht; simp [qT] at ht; subst ht
  exact ⟨by show 0 ≤ 40; decide, by show (⟨#[]⟩ : ByteArray).size ≤ 100; decide, by show 1 ≤ 100; decide⟩
theorem vT_light (r : Int) : ∀ t ∈ vT r, lightT t := by
  intro t ht; simp [vT] at ht; subst ht
  exact ⟨by show 0 ≤ 40; decide, by show 1 ≤ 100; decide, by show 0 ≤ 100; decide⟩
theorem useC_light (j : Nat) : lightC (useC j).1 := by
  match j with
  | 0 => exact (lightC_eq _).2 ⟨by show 1 ≤ 100; decide, by show 1 ≤ 40; decide, by show 0 ≤ 40; decide, qT_light 113, (by intro t ht; cases ht), trivial⟩
  | 1 => exact (lightC_eq _).2 ⟨by show 1 ≤ 100; decide, by show 1 ≤ 40; decide, by show 1 ≤ 40; decide, qT_light 113, vT_light 2, trivial⟩
  | 2 => exact (lightC_eq _).2 ⟨by show 1 ≤ 100; decide, by show 1 ≤ 40; decide, by show 1 ≤ 40; decide, qT_light 113, vT_light 1, trivial⟩
  | j + 3 => exact (lightC_eq _).2 ⟨by show 1 ≤ 100; decide, by show 1 ≤ 40; decide, by show 0 ≤ 40; decide, qT_light 113, (by intro t ht; cases ht), trivial⟩
theorem useC_size (j : Nat) : sizeL [(useC j).1] ≤ 2 := by
  match j with
  | 0 | 1 | 2 => simp [useC, sizeL, sizeC]
  | j + 3 => simp [useC, sizeL, sizeC]
theorem oneC_light (g : Bool) : lightC (oneC g) := by
  refine (lightC_eq _).2 ⟨by cases g <;> decide, by cases g <;> decide, by cases g <;> decide, ?_, ?_, trivial⟩
  · intro t ht; simp [oneC, Cond.attr] at ht; subst ht; exact ⟨by decide, by decide, by decide⟩
  · intro t ht; simp [oneC, Cond.value] at ht; subst ht; exact ⟨by decide, by decide, by decide⟩

theorem cShapeInside (kind use : Int) : Pure Try.prog 8 [pI kind, pI use] (pB true) := by
  refine PureK.of (G_ponderlaw06_ShapeInside.c (cOneO (L := []) trivial fun u1 a b h1 => ⟨_, _, _, _, _, _, _, rfl, (cW _).call ⟨_, _, _, rfl, ?_⟩⟩))
  refine ⟨fun s u => (∃ i, i < 3 ∧ IsC s (insC i)) ∧ Ow [CVec (.raw (.slice a 1 1)) [oneC true], AVec (.raw (.slice b 1 1)) [oneA]] u, ?_, ?_⟩
  · refine (cWithinV kind 3 (by omega) (by omega)).call ⟨_, rfl, CIf.mk (fun e => ?_) (fun e => CIf.mk (fun e2 => ?_) (fun e2 => ?_))⟩
    · exact ⟨⟨0, by omega, rfl, rfl, rfl, rfl, rfl, rfl, rfl⟩, h1⟩
    · exact ⟨⟨1, by omega, rfl, rfl, rfl, rfl, rfl, rfl, by show _ = [(posIn 1).pv]; rw [Cond.pv_eq]; rfl⟩, h1⟩
    · exact ⟨⟨2, by omega, rfl, rfl, rfl, rfl, rfl, rfl, rfl⟩, h1⟩
  rintro s u ⟨⟨i, hi, hs⟩, hO⟩
  rw [hs.row]
  obtain ⟨a1, c1, hp, happ⟩ := Vec.app hO (cvLen [oneC true])
  simp only [PV.raw.injEq, Value.slice.injEq, List.length_map, List.length_singleton] at hp
  obtain ⟨rfl, _, rfl⟩ := hp
  refine happ (insC i).pv _ _ (by rw [Cond.pv_eq]; rfl) (by rw [Cond.pv_eq]; rfl) (by decide) (by decide) fun b2 c2 u2 O2 => ?_
  have O3 : Ow [CVec (.raw (.slice (some ⟨b2, 0, none⟩) 2 c2)) [oneC true, insC i], AVec (.raw (.slice b 1 1)) [oneA]] u2 := O2
  have hc2 : 2 ≤ c2 := by obtain ⟨_, _, _, _, _, h⟩ := Vec.cellsAt 0 O3 rfl (by simp); exact h
  refine (cW _).call ⟨_, _, _, rfl, fun x hx => (by cases hx; rfl), by omega, by simp, by simp; omega, by omega, ?_⟩
  have hpart := Vec.part 0 O3 rfl (cvLen _) (cvCell _) 1 (by simp)
  refine CallP.view (cSizeP .sh [insC i] (by have := insC_size i; omega)) rfl (fun k x y hx hy => ?_) (fun p hp => by rw [hp]; rfl) (fun p hp => ?_)
  · cases k with
    | succ k => simp at hx
    | zero =>
      simp only [List.getElem?_cons_zero, Option.some.injEq] at hx hy
      subst hx hy
      exact ⟨BorV.list hpart, rfl⟩
  subst hp
  have hsz := insC_size i
  have hw1 : IntKind.wrap .i64 (1 + ((sizeL [insC i] : Nat) : Int)) = 1 + sizeL [insC i] := wrap_id (by omega) (by omega)
  refine ⟨_, rfl, fun t u => (∃ j, j < 4 ∧ IsC t.1 (useC j).1 ∧ t.2.1 = 1 + sizeL [insC i] + (useC j).2.2.1 ∧ t.2.2 = (useC j).2.2.2 ∧ Ow [CVec (.raw (.slice (some ⟨b2, 0, none⟩) 2 c2)) [oneC true, insC i], AVec (.raw (.slice b 1 1)) [(useC j).2.1]] u), ?_, ?_⟩
  · refine (cWithinV use 4 (by omega) (by omega)).call ⟨_, rfl, CIf.mk (fun e => ?_) (fun e => CIf.mk (fun e2 => ?_) (fun e2 => CIf.mk (fun e3 => ?_) (fun e3 => ?_)))⟩
    · exact ⟨0, by omega, ⟨rfl, rfl, rfl, rfl, rfl, rfl, rfl⟩, by show IntKind.wrap .i64 _ = _ + (0 : Int); rw [hw1]; omega, rfl, O3⟩
    · exact ⟨1, by omega, ⟨rfl, rfl, rfl, rfl, rfl, rfl, rfl⟩, by show IntKind.wrap .i64 _ = _ + (0 : Int); rw [hw1]; omega, rfl, O3⟩
    · exact ⟨2, by omega, ⟨rfl, rfl, rfl, rfl, rfl, rfl, rfl⟩, by show IntKind.wrap .i64 _ = _ + (0 : Int); rw [hw1]; omega, rfl, O3⟩
    · obtain ⟨b5, rfl, _, hst⟩ := Vec.at_ 1 O3 rfl (avLen _) (j := 0) (by simp)
      refine ⟨by omega, by omega, ?_⟩
      refine hst 1 [pS ⟨#[118]⟩, pI 0, pS ⟨#[]⟩, pI 0] _ (by simp) fun u5 O5 => ⟨3, by omega, ⟨rfl, rfl, rfl, rfl, rfl, rfl, rfl⟩, ?_, rfl, O5⟩
      rw [hw1, wrap_id (by omega) (by omega)]; rfl
  rintro t u5 ⟨j, hj, ht, hat, hwant, O5⟩
  refine ⟨fun w u => w = (if (insC i).kind = 1 then 0 else (useC j).2.2.2) ∧ Ow [CVec (.raw (.slice (some ⟨b2, 0, none⟩) 2 c2)) [oneC true, insC i], AVec (.raw (.slice b 1 1)) [(useC j).2.1]] u, ?_, ?_⟩
  · refine CIf.mk (fun e => ⟨?_, O5⟩) (fun e => ⟨?_, O5⟩)
    · have : (insC i).kind = 1 := by rw [← hs.h1]; simpa using e
      rw [if_pos this]
    · have : (insC i).kind ≠ 1 := by rw [← hs.h1]; simpa using e
      rw [if_neg this]; exact hwant
  rintro w u6 ⟨hw, O6⟩
  rw [ht.row]
  obtain ⟨a3, c3, hp, happ⟩ := Vec.app O6 (cvLen [oneC true, insC i])
  simp only [PV.raw.injEq, Value.slice.injEq, List.length_map, List.length_cons, List.length_nil] at hp
  obtain ⟨rfl, _, rfl⟩ := hp
  refine happ (useC j).1.pv _ _ (by rw [Cond.pv_eq]; rfl) (by rw [Cond.pv_eq]; rfl) (by simp) (by simp) fun b7 c7 u7 O7 => ?_
  have O8 : Ow [CVec (.raw (.slice (some ⟨b7, 0, none⟩) 3 c7)) (insP i j).conds, AVec (.raw (.slice b 1 1)) (insP i j).acts] u7 := O7
  refine cCheckO 0 1 (insP i j) O8 rfl rfl ⟨oneC_light true, insC_light i, useC_light j, trivial⟩ (by
    have h1 := insC_size i
    have h2 := useC_size j
    simp only [insP, sizeL] at h1 h2 ⊢
    have : sizeC (oneC true) = 1 := rfl
    omega) (by simp [insP]) ⟨_, _, rfl, ?_⟩
  have hall := insAll i hi j hj
  unfold insOk at hall
  simp only [← hw] at hall
  refine CIf.mk (fun e => ?_) (fun e => ?_)
  · have e : w = 0 := by simpa using e
    rw [if_pos e] at hall
    have hall := of_decide_eq_true hall
    rw [hall.1, hall.2]
    exact CIf.t rfl (CIf.t rfl (cWakes.call ⟨_, rfl, rfl⟩))
  · have e : w ≠ 0 := by simpa using e
    rw [if_neg e] at hall
    have hall := of_decide_eq_true hall
    rw [hall.1, hall.2, hat]
    exact CIf.t (by simp) (CIf.t (by simp) (cWakes.call ⟨_, rfl, rfl⟩))

end Go.Proofs.Ytfjemjnbemdkgaa

/-
  The law ShapeEdges.
-/
namespace Go.Proofs.Ytfjemjnbemdkgaa
open Go.Eng Go.RowKit
set_option linter.unusedVariables false
set_option linter.unusedSimpArgs false
set_option linter.unnecessarySimpa false

def numS (n : Nat) : Sym := ⟨2, ⟨#[]⟩, (n : Int)⟩
def tstE (n : Nat) : Test := ⟨2, ⟨#[]⟩, numS n, []⟩
def inE (n : Nat) : Test := ⟨8, ⟨#[]⟩, ⟨0, ⟨#[]⟩, 0⟩, (List.range n).map numS⟩
def valC (v : List Test) : Cond := .mk 1 true ⟨#[115]⟩ [⟨1, ⟨#[]⟩, ⟨3, ⟨#[120]⟩, 0⟩, []⟩] v false []
def nestC : Nat → Cond
  | 0 => oneC true
  | k + 1 => .mk 3 false ⟨#[]⟩ [] [] false [nestC k]
def edgeP (i n : Nat) : Prod :=
  match i with
  | 0 => ⟨⟨#[97]⟩, List.replicate n (oneC true), [oneA]⟩
  | 1 => ⟨⟨#[97]⟩, [oneC true], List.replicate n oneA⟩
  | 2 => ⟨⟨#[97]⟩, [valC ((List.range n).map tstE)], [oneA]⟩
  | 3 => ⟨⟨#[97]⟩, [valC [inE n]], [oneA]⟩
  | _ => ⟨⟨#[97]⟩, [oneC true, nestC n], [oneA]⟩
/-- The error that is wanted, and its place. -/
def edgeW (i n : Nat) : Int × Int :=
  match i with
  | 0 => if n < 1 then (7, -1) else if 16 < n then (7, -1) else (0, -1)
  | 1 => if n < 1 then (7, -1) else if 16 < n then (7, -1) else (0, -1)
  | 2 => if 4 < n then (7, 0) else (0, -1)
  | 3 => if n < 1 then (9, 0) else if 8 < n then (9, 0) else (0, -1)
  | _ => if 14 < n then (7, -1) else if 3 < n then (8, 4) else (0, -1)

def edgeOk (i n : Nat) : Bool :=
  let r := checkE (edgeP i n)
  decide (r.2.1 = (edgeW i n).1 ∧ r.1 = (edgeW i n).2 ∧ sizeL (edgeP i n).conds ≤ 1000)
theorem edges0 : ((List.range 30).all fun n => edgeOk 0 n) = true := by kernel_rfl
theorem edges1 : ((List.range 30).all fun n => edgeOk 1 n) = true := by kernel_rfl
theorem edges2 : ((List.range 30).all fun n => edgeOk 2 n) = true := by kernel_rfl
theorem edges3 : ((List.range 30).all fun n => edgeOk 3 n) = true := by kernel_rfl
theorem edges4 : ((List.range 30).all fun n => edgeOk 4 n) = true := by kernel_rfl
theorem edgesAll (i n : Nat) (hi : i < 5) (hn : n < 30) : edgeOk i n = true := by
  match i, hi with
  | 0, _ => exact List.all_eq_true.1 edges0 n (List.mem_range.2 hn)
  | 1, _ => exact List.all_eq_true.1 edges1 n (List.mem_range.2 hn)
  | 2, _ => exact List.all_eq_true.1 edges2 n (List.mem_range.2 hn)
  | 3, _ => exact List.all_eq_true.1 edges3 n (List.mem_range.2 hn)
  | 4, _ => exact List.all_eq_true.1 edges4 n (List.mem_range.2 hn)

theorem valC_light {v : List Test} (h1 : v.length ≤ 40) (h2 : ∀ t ∈ v, lightT t) : lightC (valC v) := by
  refine (lightC_eq _).2 ⟨by show (⟨#[115]⟩ : ByteArray).size ≤ 100; decide, by show 1 ≤ 40; decide, h1, ?_, h2, trivial⟩
  intro t ht
  simp [valC, Cond.attr] at ht; subst ht; exact ⟨by show 0 ≤ 40; decide, by show 0 ≤ 100; decide, by show 1 ≤ 100; decide⟩
theorem nestC_light : ∀ n, lightC (nestC n)
  | 0 => oneC_light true
  | n + 1 => (lightC_eq _).2 ⟨by show 0 ≤ 100; decide, by show 0 ≤ 40; decide, by show 0 ≤ 40; decide, (fun t ht => by cases ht), (fun t ht => by cases ht), ⟨nestC_light n, trivial⟩⟩
theorem edge_light (i n : Nat) (hn : n < 30) : lightL (edgeP i n).conds := by
  match i with
  | 0 => exact lightL_iff.2 fun c hc => by rw [List.eq_of_mem_replicate hc]; exact oneC_light true
  | 1 => exact ⟨oneC_light true, trivial⟩
  | 2 =>
    refine ⟨valC_light (by simp; omega) fun t ht => ?_, trivial⟩
    obtain ⟨k, _, rfl⟩ := List.mem_map.1 ht
    exact ⟨by show 0 ≤ 40; decide, by show 0 ≤ 100; decide, by show 0 ≤ 100; decide⟩
  | 3 =>
    refine ⟨valC_light (by simp) fun t ht => ?_, trivial⟩
    simp only [List.mem_singleton] at ht
    subst ht
    exact ⟨by simp [inE]; omega, by show 0 ≤ 100; decide, by show 0 ≤ 100; decide⟩
  | i + 4 => exact ⟨oneC_light true, nestC_light n, trivial⟩
theorem edge_acts (i n : Nat) (hn : n < 30) : (edgeP i n).acts.length ≤ 1000000 := by
  match i with
  | 0 | 2 | 3 => show 1 ≤ 1000000; decide
  | 1 => simp [edgeP]; omega
  | i + 4 => show 1 ≤ 1000000; decide

/-- The production as it lies, seen as one of these. -/
def EdgeS (s : (ByteArray × (Option Addr × Nat × Nat) × (Option Addr × Nat × Nat)) × Int × Int) (u : Mem) : Prop :=
  ∃ i n, i < 5 ∧ n < 30 ∧ s.2 = edgeW i n ∧ s.1.1 = ⟨#[97]⟩ ∧
    BorV u (.raw (.slice s.1.2.1.1 s.1.2.1.2.1 s.1.2.1.2.2)) (.list 7 .sh ((edgeP i n).conds.map Cond.pv)) ∧
    BorV u (.raw (.slice s.1.2.2.1 s.1.2.2.2.1 s.1.2.2.2.2)) (.list 19 .sh ((edgeP i n).acts.map Actn.pv))

theorem cEdgeCheck {s : (ByteArray × (Option Addr × Nat × Nat) × (Option Addr × Nat × Nat)) × Int × Int} {u : Mem} (h : EdgeS s u) {R : PV → Mem → Prop} (hk : R (.tup [pI s.2.2, pI s.2.1]) u) :
    CallP Try.prog 16 [.agg [pS s.1.1, .raw (.slice s.1.2.1.1 s.1.2.1.2.1 s.1.2.1.2.2), .raw (.slice s.1.2.2.1 s.1.2.2.2.1 s.1.2.2.2.2)]] u R := by
  obtain ⟨i, n, hi, hn, hw, hnm, h1, h2⟩ := h
  have hall := edgesAll i n hi hn
  unfold edgeOk at hall
  obtain ⟨e1, e2, e3⟩ := of_decide_eq_true hall
  have hname : (edgeP i n).name = ⟨#[97]⟩ := by match i with | 0 | 1 | 2 | 3 => rfl | i + 4 => rfl
  refine CallP.view (cCheck .sh .sh (edgeP i n) (edge_light i n hn) (by omega) (edge_acts i n hn)) rfl (fun k x y hx hy => ?_) (fun p hp => by rw [hp]; rfl) (fun p hp => ?_)
  · cases k with
    | succ k => simp at hx
    | zero =>
      simp only [List.getElem?_cons_zero, Option.some.injEq] at hx hy
      subst hx hy
      refine ⟨.agg rfl rfl fun k x y hx hy => ?_, rfl⟩
      match k with
      | 0 => simp at hx hy; subst hx hy; rw [hnm, hname]; exact .same _
      | 1 => simp at hx hy; subst hx hy; exact h1
      | 2 => simp at hx hy; subst hx hy; exact h2
      | k + 3 => simp at hx
  · rw [hp, e1, e2, ← hw]
    exact hk

theorem bor_one {u : Mem} {a : Option Addr} {n c : Nat} {L : List Asn} {l : List Cond} (i : Nat) (hO : Ow L u) (hi : L[i]? = some (CVec (.raw (.slice a n c)) l)) : BorV u (.raw (.slice a n c)) (.list 7 .sh (l.map Cond.pv)) := Vec.view i hO hi (cvLen _) (cvCell _)
theorem bor_act {u : Mem} {a : Option Addr} {n c : Nat} {L : List Asn} {l : List Actn} (i : Nat) (hO : Ow L u) (hi : L[i]? = some (AVec (.raw (.slice a n c)) l)) : BorV u (.raw (.slice a n c)) (.list 19 .sh (l.map Actn.pv)) := Vec.view i hO hi (avLen _) (avCell _)

/-- The condition whose values are a slice of one's own. -/
def rowX (p : PV) : List PV := [pI 1, pB true, pS ⟨#[115]⟩, .list 6 .sh [Test.pv ⟨1, ⟨#[]⟩, ⟨3, ⟨#[120]⟩, 0⟩, []⟩], p, pB false, .list 7 .sh []]
theorem rowX_bor {u : Mem} {p : PV} {v : List Test} (h : BorV u p (.list 6 .sh (v.map Test.pv))) : BorL u (rowX p) (valC v).pv := by
  rw [Cond.pv_eq]
  exact .cons (.same _) (.cons (.same _) (.cons (.same _) (.cons (.same _) (.cons h (.cons (.same _) (.cons (.same _) (.nil _)))))))
theorem bor_row {u : Mem} {p : PV} {a : Option Addr} {n c : Nat} {v : List Test} {L : List Asn} (hO : Ow L u) (hm : Vec 37 7 (.raw (.slice a n c)) [rowX p] ∈ L) (h : BorV u p (.list 6 .sh (v.map Test.pv))) :
    BorV u (.raw (.slice a n c)) (.list 7 .sh ([valC v].map Cond.pv)) := by
  obtain ⟨ν, h1, h2⟩ := hO.mem _ hm
  exact Vec.deep (f := fun _ => rowX p) (g := Cond.pv) (X := [valC v]) h1 h2 (fun x hx => rfl) (fun x hx => by rw [Cond.pv_eq]; rfl) (fun x hx => by rw [Cond.pv_eq]; rfl) fun x hx => by
    simp only [List.mem_singleton] at hx; subst hx; exact rowX_bor h

theorem rep_succ {α : Type} (n : Nat) (x : α) : List.replicate n x ++ [x] = List.replicate (n + 1) x := by
  rw [List.replicate_succ']
theorem range_succ_map {α : Type} (n : Nat) (f : Nat → α) : (List.range n).map f ++ [f n] = (List.range (n + 1)).map f := by
  rw [List.range_succ, List.map_append]; rfl

theorem nRow (n : Nat) : [pI 2, pS ⟨#[]⟩, pI 2, pS ⟨#[]⟩, pI (n : Int), PV.list 3 .sh []] = (tstE n).pv := rfl

theorem cShapeEdges (which n0 : Int) : Pure Try.prog 5 [pI which, pI n0] (pB true) := by
  refine PureK.of (G_ponderlaw06_ShapeEdges.c (cOneO (L := []) trivial fun u1 a b h1 => ⟨_, _, _, _, _, _, _, rfl, ?_⟩))
  have hwn : withinV n0 30 < 30 := withinV_lt n0 (by omega)
  refine (cWithinV n0 30 (by omega) (by omega)).call ⟨_, rfl, ?_⟩
  generalize hn : withinV n0 30 = n at hwn
  refine ⟨fun s u => ∃ b8 b9, s = (some ⟨b8, 0, none⟩, some ⟨b9, 0, none⟩) ∧ Ow [CVec (.raw (.slice a 1 1)) [oneC true], AVec (.raw (.slice b 1 1)) [oneA], Pt b8 37 (oneC true).pv, Pt b9 45 oneA.pv] u, ?_, ?_⟩
  · obtain ⟨ba, rfl, hrd, _⟩ := Vec.at_ 0 h1 rfl (cvLen [oneC true]) (j := 0) (by simp)
    obtain ⟨bb, rfl, hrd2, _⟩ := Vec.at_ 1 h1 rfl (avLen [oneA]) (j := 0) (by simp)
    refine ⟨by omega, by omega, _, _, _, _, _, _, _, _, _, _, (hrd 0 7 (by omega)).trans (by simp only [List.map_cons, List.getElem_cons_zero]; rw [Cond.pv_eq]; rfl), ?_⟩
    refine ⟨by omega, by omega, _, _, _, _, _, _, _, _, _, _, _, _, _, _, _, _, _, _, _, hrd2 0 19 (by omega), ?_, ?_⟩
    · intro b8 h8 b9 h9
      refine ⟨h8, ((h1.new 37 _ h8).new 45 _ h9).st 1 rfl (by simp) fun u3 hO => hO.st 0 rfl (by simp) fun u4 hO => ⟨b8, b9, rfl, ?_⟩⟩
      have hO := hO.perm (L' := [_, _, _, _]) (((List.Perm.swap _ _ _).trans (List.perm_append_comm (l₁ := [_, _]) (l₂ := [_, _]))))
      rw [Cond.pv_eq]; exact hO
    · intro b9 h9 b8 h8
      have hne : u1 b8 = none := by
        rw [Mem.set_ne] at h8
        · exact h8
        · rintro rfl; rw [Mem.set_same] at h8; cases h8
      refine ⟨hne, ((h1.new 45 _ h9).new 37 _ h8).st 0 rfl (by simp) fun u3 hO => hO.st 1 rfl (by simp) fun u4 hO => ⟨b8, b9, rfl, ?_⟩⟩
      have hO := hO.perm (L' := [_, _, _, _]) (List.perm_append_comm (l₁ := [_, _]) (l₂ := [_, _]))
      rw [Cond.pv_eq]; exact hO
  rintro s u2 ⟨b8, b9, rfl, hO⟩
  refine ⟨EdgeS, ?_, ?_⟩
  · have hwi : withinV which 5 < 5 := withinV_lt which (by omega)
    refine (cWithinV which 5 (by omega) (by omega)).call ⟨_, rfl, ?_⟩
    generalize withinV which 5 = i at hwi
    refine CIf.mk (fun e => ?_) (fun e => CIf.mk (fun e2 => ?_) (fun e2 => CIf.mk (fun e3 => ?_) (fun e3 => CIf.mk (fun e4 => ?_) (fun e4 => ?_))))
    · refine LoopI.each2 (n := n) (by omega) (fun k x u => x.1 = ⟨#[97]⟩ ∧ x.2.2 = (b, 1, 1) ∧ Ow [CVec (.raw (.slice x.2.1.1 x.2.1.2.1 x.2.1.2.2)) (List.replicate k (oneC true)), AVec (.raw (.slice b 1 1)) [oneA], Pt b8 37 (oneC true).pv] u) ⟨rfl, rfl, Vec.nil _ _ (hO.drop.tail fun _ h => h.swap.drop)⟩ ?_ ?_
      · rintro k ⟨nm, ⟨x, xn, xc⟩, y⟩ u next hk ⟨rfl, rfl, hO⟩ hnext
        refine CIf.t (by simpa using hk) ⟨_, _, _, _, _, _, _, _, _, _, (hO.rd 2 rfl (by rw [Cond.pv_eq]; simp)).trans (by rw [Cond.pv_eq]; rfl), ?_⟩
        obtain ⟨a1, c1, hp, happ⟩ := Vec.app hO (cvLen _)
        simp only [PV.raw.injEq, Value.slice.injEq, List.length_map, List.length_replicate] at hp
        obtain ⟨rfl, rfl, rfl⟩ := hp
        simp only [List.length_map, List.length_replicate] at happ
        refine happ _ 112 _ rfl rfl (by omega) (by omega) fun b2 c2 u2 O2 => hnext _ _ ⟨rfl, rfl, ?_⟩
        have e : (List.replicate xn (oneC true)).map Cond.pv ++ [(oneC true).pv] = (List.replicate (xn + 1) (oneC true)).map Cond.pv := by rw [← rep_succ, List.map_append]; rfl
        have O3 : ∀ r, r = (oneC true).pv → Ow [Vec 37 7 (.raw (.slice (some ⟨b2, 0, none⟩) (xn + 1) c2)) ((List.replicate xn (oneC true)).map Cond.pv ++ [r]), AVec (.raw (.slice b 1 1)) [oneA], Pt b8 37 (oneC true).pv] u2 → Ow [CVec (.raw (.slice (some ⟨b2, 0, none⟩) (xn + 1) c2)) (List.replicate (xn + 1) (oneC true)), AVec (.raw (.slice b 1 1)) [oneA], Pt b8 37 (oneC true).pv] u2 := fun r hr h => by
          subst hr; rw [e] at h; exact h
        exact O3 _ (by rw [Cond.pv_eq]) O2
      · rintro ⟨nm, ⟨x, xn, xc⟩, y⟩ u next ⟨rfl, rfl, hO⟩
        refine CIf.f (by simp) ?_
        have done : ∀ w : Int × Int, w = edgeW 0 n → EdgeS ((⟨#[97]⟩, (x, xn, xc), (b, 1, 1)), w) u := fun w hw => ⟨0, n, by omega, hwn, hw, rfl, bor_one 0 hO rfl, bor_act 1 hO rfl⟩
        refine CIf.mk (fun e => ?_) (fun e => CIf.mk (fun e2 => ?_) (fun e2 => ?_))
        · exact done _ (by simp only [decide_eq_true_eq] at e; simp [edgeW, show n < 1 by omega])
        · exact done _ (by simp only [decide_eq_true_eq, decide_eq_false_iff_not] at e e2; simp [edgeW, show ¬ n < 1 by omega, show 16 < n by omega])
        · exact done _ (by simp only [decide_eq_true_eq, decide_eq_false_iff_not] at e e2; simp [edgeW, show ¬ n < 1 by omega, show ¬ 16 < n by omega])
    · refine LoopI.each2 (n := n) (by omega) (fun k x u => x.1 = ⟨#[97]⟩ ∧ x.2.1 = (a, 1, 1) ∧ Ow [AVec (.raw (.slice x.2.2.1 x.2.2.2.1 x.2.2.2.2)) (List.replicate k oneA), CVec (.raw (.slice a 1 1)) [oneC true], Pt b9 45 oneA.pv] u) ⟨rfl, rfl, Vec.nil _ _ (hO.tail fun _ h => h.drop.drop)⟩ ?_ ?_
      · rintro k ⟨nm, y, ⟨x, xn, xc⟩⟩ u next hk ⟨rfl, rfl, hO⟩ hnext
        refine CIf.t (by simpa using hk) ⟨_, _, _, _, _, _, _, _, _, _, _, _, _, _, _, _, _, _, _, hO.rd 2 rfl (by simp), ?_⟩
        obtain ⟨a1, c1, hp, happ⟩ := Vec.app hO (avLen _)
        simp only [PV.raw.injEq, Value.slice.injEq, List.length_map, List.length_replicate] at hp
        obtain ⟨rfl, rfl, rfl⟩ := hp
        simp only [List.length_map, List.length_replicate] at happ
        refine happ _ 224 _ rfl rfl (by omega) (by omega) fun b2 c2 u2 O2 => hnext _ _ ⟨rfl, rfl, ?_⟩
        have e : (List.replicate xn oneA).map Actn.pv ++ [oneA.pv] = (List.replicate (xn + 1) oneA).map Actn.pv := by rw [← rep_succ, List.map_append]; rfl
        rw [e] at O2; exact O2
      · rintro ⟨nm, y, ⟨x, xn, xc⟩⟩ u next ⟨rfl, rfl, hO⟩
        refine CIf.f (by simp) ?_
        have done : ∀ w : Int × Int, w = edgeW 1 n → EdgeS ((⟨#[97]⟩, (a, 1, 1), (x, xn, xc)), w) u := fun w hw => ⟨1, n, by omega, hwn, hw, rfl, bor_one 1 hO rfl, bor_act 0 hO rfl⟩
        refine CIf.mk (fun e => ?_) (fun e => CIf.mk (fun e2 => ?_) (fun e2 => ?_))
        · exact done _ (by simp only [decide_eq_true_eq] at e; simp [edgeW, show n < 1 by omega])
        · exact done _ (by simp only [decide_eq_true_eq, decide_eq_false_iff_not] at e e2; simp [edgeW, show ¬ n < 1 by omega, show 16 < n by omega])
        · exact done _ (by simp only [decide_eq_true_eq, decide_eq_false_iff_not] at e e2; simp [edgeW, show ¬ n < 1 by omega, show ¬ 16 < n by omega])
    · have hO := hO.tail (L' := [AVec (.raw (.slice b 1 1)) [oneA]]) fun _ h => h.swap.drop.swap.drop
      obtain ⟨ba, rfl, _, hst⟩ := Vec.at_ 0 hO rfl (cvLen [oneC true]) (j := 0) (by simp)
      refine ⟨by omega, by omega, ?_⟩
      refine hst 4 [.raw (.slice none 0 0)] _ (by simp) fun u3 O3 => ?_
      have O3 : Ow [Vec 37 7 (.raw (.slice (some ⟨ba, 0, none⟩) 1 1)) [rowX (.raw (.slice none 0 0))], AVec (.raw (.slice b 1 1)) [oneA]] u3 := by
        have e : ([oneC true].map Cond.pv).set 0 (wrL ([oneC true].map Cond.pv)[0] 4 [.raw (.slice none 0 0)]) = [rowX (.raw (.slice none 0 0))] := by
          simp only [List.map_cons, List.map_nil, List.getElem_cons_zero]
          rw [Cond.pv_eq]; rfl
        rw [e] at O3; exact O3
      refine LoopI.each (n := n) (by omega) (fun k u => ∃ x xn xc, Ow [Vec 49 6 (.raw (.slice x xn xc)) (((List.range k).map tstE).map Test.pv), Vec 37 7 (.raw (.slice (some ⟨ba, 0, none⟩) 1 1)) [rowX (.raw (.slice x xn xc))], AVec (.raw (.slice b 1 1)) [oneA]] u) ⟨none, 0, 0, Vec.nil _ _ O3⟩ ?_ ?_
      · rintro k u next hk ⟨x, xn, xc, hO⟩ hnext
        have hrl : ∀ r ∈ [rowX (.raw (.slice x xn xc))], r.length = 7 := fun r hr => by simp only [List.mem_singleton] at hr; subst hr; rfl
        obtain ⟨_, hb, hrd, _⟩ := Vec.at_ 1 hO rfl hrl (j := 0) (by simp)
        cases hb
        have rdx := hrd 4 1 (by omega)
        obtain ⟨a1, c1, hp, happ⟩ := Vec.app hO (rowsLenK (pv := Test.pv) (fun _ => rfl) _)
        simp only [PV.raw.injEq, Value.slice.injEq, List.length_map, List.length_range] at hp
        obtain ⟨rfl, rfl, rfl⟩ := hp
        simp only [List.length_map, List.length_range] at happ
        have e : ((List.range xn).map tstE).map Test.pv ++ [(tstE xn).pv] = ((List.range (xn + 1)).map tstE).map Test.pv := by rw [← range_succ_map, List.map_append]; rfl
        have hst : ∀ (b' c' : Nat) (u' : Mem), Ow [Vec 49 6 (.raw (.slice (some ⟨b', 0, none⟩) (xn + 1) c')) (((List.range xn).map tstE).map Test.pv ++ [(tstE xn).pv]), Vec 37 7 (.raw (.slice (some ⟨ba, 0, none⟩) 1 1)) [rowX (.raw (.slice x xn xc))], AVec (.raw (.slice b 1 1)) [oneA]] u' → stM ba (0 + 0 * 7 + 4) [.raw (.slice (some ⟨b', 0, none⟩) (xn + 1) c')] u' fun u'' => next (IntKind.wrap .i64 ((xn : Int) + 1)) u'' := fun b' c' u' O' => by
          obtain ⟨_, hb, _, hst⟩ := Vec.at_ 1 O' rfl hrl (j := 0) (by simp)
          cases hb
          exact hst 4 [.raw (.slice (some ⟨b', 0, none⟩) (xn + 1) c')] _ (by simp) fun u2 O2 => hnext u2 ⟨_, _, _, by rw [← e]; exact O2⟩
        refine CIf.t (by simpa using hk) ?_
        repeat' first
          | exact True.intro
          | exact hst _ _ _ (by assumption)
          | refine (cN _).call ⟨_, _, _, rfl, ?_⟩
          | refine ⟨_, _, _, rdx, ?_⟩
          | refine happ (tstE xn).pv 80 _ rfl rfl (by omega) (by omega) fun b' c' u' O' => ?_
          | refine ⟨by omega, by omega, ?_⟩
          | refine ⟨?_, ?_⟩
      · rintro u next ⟨x, xn, xc, hO⟩
        refine CIf.f (by simp) ?_
        have done : ∀ w : Int × Int, w = edgeW 2 n → EdgeS ((⟨#[97]⟩, (some ⟨ba, 0, none⟩, 1, 1), (b, 1, 1)), w) u := fun w hw => ⟨2, n, by omega, hwn, hw, rfl, bor_row hO (by simp) (Vec.view 0 hO rfl (rowsLenK (pv := Test.pv) (fun _ => rfl) _) (rowsCellK (pv := Test.pv) (fun _ => rfl) _)), bor_act 2 hO rfl⟩
        refine CIf.mk (fun e => ?_) (fun e => ?_)
        · exact done _ (by simp only [decide_eq_true_eq] at e; simp [edgeW, show 4 < n by omega])
        · exact done _ (by simp only [decide_eq_false_iff_not] at e; simp [edgeW, show ¬ 4 < n by omega])
    · have hO := hO.tail (L' := [AVec (.raw (.slice b 1 1)) [oneA]]) fun _ h => h.swap.drop.swap.drop
      obtain ⟨ba, rfl, _, hst⟩ := Vec.at_ 0 hO rfl (cvLen [oneC true]) (j := 0) (by simp)
      refine ⟨by omega, by omega, by omega, by simp only [Int.toNat_natCast]; omega, fun b1 hb1 => ?_⟩
      have hO1 := (hO.new 39 (List.flatten (List.replicate n [pI 0, pS ⟨#[]⟩, pI 0])) hb1).imp (B := Vec 39 3 (.raw (.slice (some ⟨b1, 0, none⟩) n n)) (List.replicate n [pI 0, pS ⟨#[]⟩, pI 0])) fun ν hν =>
        ⟨[b1], .inr ⟨b1, n, [], by simp, rfl, by rw [show ν b1 = _ from hν]; simp, by simp, by simp⟩⟩
      simp only [Int.toNat_natCast]
      have hl3 : ∀ k, ∀ r ∈ ((List.range k).map fun j => (numS j).pv) ++ List.replicate (n - k) [pI 0, pS ⟨#[]⟩, pI 0], r.length = 3 := fun k r hr => by
        rcases List.mem_append.1 hr with h | h
        · obtain ⟨j, _, rfl⟩ := List.mem_map.1 h; rfl
        · rw [List.eq_of_mem_replicate h]; rfl
      refine LoopI.each (n := n) (by omega) (fun k u => Ow [Vec 39 3 (.raw (.slice (some ⟨b1, 0, none⟩) n n)) (((List.range k).map fun j => (numS j).pv) ++ List.replicate (n - k) [pI 0, pS ⟨#[]⟩, pI 0]), CVec (.raw (.slice (some ⟨ba, 0, none⟩) 1 1)) [oneC true], AVec (.raw (.slice b 1 1)) [oneA]] u) (by simpa using hO1) ?_ ?_
      · intro k u next hk hO hnext
        refine CIf.t (by simpa using hk) ((cN _).call ⟨_, _, _, rfl, by omega, by omega, ?_⟩)
        obtain ⟨_, hb, _, hst⟩ := Vec.at_ 0 hO rfl (hl3 k) (j := k) (by simp; omega)
        cases hb
        simp only [Int.toNat_natCast]
        refine hst 0 [pI 2, pS ⟨#[]⟩, pI (k : Int)] _ (by simp) fun u' O' => hnext u' ?_
        have e : (((List.range k).map fun j => (numS j).pv) ++ List.replicate (n - k) [pI 0, pS ⟨#[]⟩, pI 0]).set k [pI 2, pS ⟨#[]⟩, pI (k : Int)] = ((List.range (k + 1)).map fun j => (numS j).pv) ++ List.replicate (n - (k + 1)) [pI 0, pS ⟨#[]⟩, pI 0] := by
          rw [List.set_append_right _ _ (by simp), ← range_succ_map]
          have : n - k = (n - (k + 1)) + 1 := by omega
          rw [this, List.replicate_succ]
          simp [numS]
        have hkl : k < (((List.range k).map fun j => (numS j).pv) ++ List.replicate (n - k) [pI 0, pS ⟨#[]⟩, pI 0]).length := by simp; omega
        have e2 : wrL ((((List.range k).map fun j => (numS j).pv) ++ List.replicate (n - k) [pI 0, pS ⟨#[]⟩, pI 0])[k]'hkl) 0 [pI 2, pS ⟨#[]⟩, pI (k : Int)] = [pI 2, pS ⟨#[]⟩, pI (k : Int)] := by
          have : (((List.range k).map fun j => (numS j).pv) ++ List.replicate (n - k) [pI 0, pS ⟨#[]⟩, pI 0])[k]'hkl = [pI 0, pS ⟨#[]⟩, pI 0] := by
            rw [List.getElem_append_right (by simp)]; simp
          rw [this]; rfl
        rw [e2, e] at O'
        exact O'
      · intro u next hO
        refine CIf.f (by simp) fun b2 hb2 => ⟨by omega, by omega, ?_⟩
        simp only [Nat.sub_self, List.replicate_zero, List.append_nil] at hO
        have hO2 := (hO.new 49 [pI 8, pS ⟨#[]⟩, pI 0, pS ⟨#[]⟩, pI 0, .raw (.slice (some ⟨b1, 0, none⟩) n n)] hb2).vec1 (sz := 6) rfl
        obtain ⟨_, hb, _, hst⟩ := Vec.at_ 2 hO2 rfl (cvLen [oneC true]) (j := 0) (by simp)
        cases hb
        refine hst 4 [.raw (.slice (some ⟨b2, 0, none⟩) 1 1)] _ (by simp) fun u3 O3 => ?_
        have e : ([oneC true].map Cond.pv).set 0 (wrL ([oneC true].map Cond.pv)[0] 4 [.raw (.slice (some ⟨b2, 0, none⟩) 1 1)]) = [rowX (.raw (.slice (some ⟨b2, 0, none⟩) 1 1))] := by
          simp only [List.map_cons, List.map_nil, List.getElem_cons_zero]
          rw [Cond.pv_eq]; rfl
        have O3 : Ow [Vec 49 6 (.raw (.slice (some ⟨b2, 0, none⟩) 1 1)) [[pI 8, pS ⟨#[]⟩, pI 0, pS ⟨#[]⟩, pI 0, .raw (.slice (some ⟨b1, 0, none⟩) n n)]], Vec 39 3 (.raw (.slice (some ⟨b1, 0, none⟩) n n)) (((List.range n).map numS).map Sym.pv), Vec 37 7 (.raw (.slice (some ⟨ba, 0, none⟩) 1 1)) [rowX (.raw (.slice (some ⟨b2, 0, none⟩) 1 1))], AVec (.raw (.slice b 1 1)) [oneA]] u3 := by
          rw [e] at O3
          rw [List.map_map]
          exact O3
        have v1 : BorV u3 (.raw (.slice (some ⟨b1, 0, none⟩) n n)) (.list 3 .sh ((inE n).list.map Sym.pv)) := Vec.view 1 O3 rfl (rowsLenK (pv := Sym.pv) (fun _ => rfl) _) (rowsCellK (pv := Sym.pv) (fun _ => rfl) _)
        have v2 : BorV u3 (.raw (.slice (some ⟨b2, 0, none⟩) 1 1)) (.list 6 .sh ([inE n].map Test.pv)) := by
          obtain ⟨ν, h1, h2⟩ := O3.mem (Vec 49 6 (.raw (.slice (some ⟨b2, 0, none⟩) 1 1)) [[pI 8, pS ⟨#[]⟩, pI 0, pS ⟨#[]⟩, pI 0, .raw (.slice (some ⟨b1, 0, none⟩) n n)]]) (by simp)
          refine Vec.deep (f := fun _ => [pI 8, pS ⟨#[]⟩, pI 0, pS ⟨#[]⟩, pI 0, .raw (.slice (some ⟨b1, 0, none⟩) n n)]) (g := Test.pv) (X := [inE n]) h1 h2 (fun x hx => rfl) (fun x hx => rfl) (fun x hx => rfl) fun x hx => ?_
          simp only [List.mem_singleton] at hx; subst hx
          exact .cons (.same _) (.cons (.same _) (.cons (.same _) (.cons (.same _) (.cons (.same _) (.cons v1 (.nil _))))))
        have done : ∀ w : Int × Int, w = edgeW 3 n → EdgeS ((⟨#[97]⟩, (some ⟨ba, 0, none⟩, 1, 1), (b, 1, 1)), w) u3 := fun w hw => ⟨3, n, by omega, hwn, hw, rfl, bor_row O3 (by simp) v2, bor_act 3 O3 rfl⟩
        refine CIf.mk (fun e => ?_) (fun e => CIf.mk (fun e2 => ?_) (fun e2 => ?_))
        · exact done _ (by simp only [decide_eq_true_eq] at e; simp [edgeW, show n < 1 by omega])
        · exact done _ (by simp only [decide_eq_true_eq, decide_eq_false_iff_not] at e e2; simp [edgeW, show ¬ n < 1 by omega, show 8 < n by omega])
        · exact done _ (by simp only [decide_eq_true_eq, decide_eq_false_iff_not] at e e2; simp [edgeW, show ¬ n < 1 by omega, show ¬ 8 < n by omega])
    · refine ⟨_, _, _, _, _, _, _, _, _, _, (hO.rd 2 rfl (by rw [Cond.pv_eq]; simp)).trans (by rw [Cond.pv_eq]; rfl), ?_⟩
      refine LoopI.each2 (n := n) (by omega) (fun k x u => x = (.nr, [(nestC k).pv]) ∧ Ow [AVec (.raw (.slice b 1 1)) [oneA], Pt b8 37 (oneC true).pv] u) ⟨by show _ = (Fl.nr, [(oneC true).pv]); rw [Cond.pv_eq], hO.drop.tail fun _ h => h.swap.drop⟩ ?_ ?_
      · rintro k x u next hk ⟨rfl, hO⟩ hnext
        refine CIf.t (by simpa using hk) (hnext _ _ ⟨?_, hO⟩)
        have e : (nestC (k + 1)).pv = [pI 3, pB false, pS ⟨#[]⟩, .list 6 .sh [], .list 6 .sh [], pB false, .list 7 .sh [(nestC k).pv]] := by rw [Cond.pv_eq]; rfl
        rw [e]
      · rintro x u next ⟨rfl, hO⟩
        refine CIf.f (by simp) ⟨_, _, _, _, _, _, _, _, _, _, (hO.rd 1 rfl (by rw [Cond.pv_eq]; simp)).trans (by rw [Cond.pv_eq]; rfl), fun b43 hb => ?_⟩
        have hO2 : Ow [CVec (.raw (.slice (some ⟨b43, 0, none⟩) 1 1)) [oneC true], AVec (.raw (.slice b 1 1)) [oneA], Pt b8 37 (oneC true).pv] _ := (hO.new 37 (oneC true).pv hb).vec1 (by rw [Cond.pv_eq]; rfl)
        rw [Cond.pv_eq] at hO2
        obtain ⟨a1, c1, hp, happ⟩ := Vec.app hO2 (cvLen _)
        simp only [PV.raw.injEq, Value.slice.injEq, List.length_map, List.length_singleton] at hp
        obtain ⟨rfl, _, rfl⟩ := hp
        refine happ (nestC n).pv 112 _ (by rw [Cond.pv_eq]; rfl) (by rw [Cond.pv_eq]; rfl) (by decide) (by decide) fun b2 c2 u2 O2 => ?_
        have O2 : Ow [CVec (.raw (.slice (some ⟨b2, 0, none⟩) 2 c2)) [oneC true, nestC n], AVec (.raw (.slice b 1 1)) [oneA], Pt b8 37 (oneC true).pv] u2 := O2
        have done : ∀ w : Int × Int, w = edgeW 4 n → EdgeS ((⟨#[97]⟩, (some ⟨b2, 0, none⟩, 2, c2), (b, 1, 1)), w) u2 := fun w hw => ⟨4, n, by omega, hwn, hw, rfl, bor_one 0 O2 rfl, bor_act 1 O2 rfl⟩
        refine CIf.mk (fun e => ?_) (fun e => CIf.mk (fun e2 => ?_) (fun e2 => ?_))
        · exact done _ (by simp only [decide_eq_true_eq] at e; simp [edgeW, show 14 < n by omega])
        · exact done _ (by simp only [decide_eq_true_eq, decide_eq_false_iff_not] at e e2; simp [edgeW, show ¬ 14 < n by omega, show 3 < n by omega])
        · exact done _ (by simp only [decide_eq_true_eq, decide_eq_false_iff_not] at e e2; simp [edgeW, show ¬ 14 < n by omega, show ¬ 3 < n by omega])
  · rintro s u hs
    refine cEdgeCheck hs ⟨_, _, rfl, CIf.t (by simp) (CIf.t (by simp) (cWakes.call ⟨_, rfl, rfl⟩))⟩

end Go.Proofs.Ytfjemjnbemdkgaa

/-
  The program's types, opened: symbols, bindings, tests, elements, conditions.
-/
namespace Go.Proofs.Ytfjemjnbemdkgaa
open Go.Eng
set_option linter.unusedVariables false
set_option linter.unusedSimpArgs false
set_option linter.unnecessarySimpa false
set_option maxRecDepth 100000

theorem progOwn : ownKnob Try.prog.godebug = none := by kernel_rfl
theorem progLaid : laidOutB Try.prog = true := by kernel_rfl

section
variable {w : World}

theorem szInt : Try.prog.cellsOf 3 = 1 := by kernel_rfl
theorem szBool : Try.prog.cellsOf 4 = 1 := by kernel_rfl
theorem szString : Try.prog.cellsOf 9 = 1 := by kernel_rfl
theorem szSym : Try.prog.cellsOf 39 = 3 := by kernel_rfl
theorem szSyms : Try.prog.cellsOf 47 = 1 := by kernel_rfl
theorem szTest : Try.prog.cellsOf 49 = 6 := by kernel_rfl
theorem szTests : Try.prog.cellsOf 35 = 1 := by kernel_rfl
theorem szCond : Try.prog.cellsOf 37 = 7 := by kernel_rfl
theorem szConds : Try.prog.cellsOf 22 = 1 := by kernel_rfl

theorem rdSym (n : Nat) (cs : List Value) (h : Reads Try.prog w n 39 cs) : ∃ s : Sym, RepC (Zall w) s.pv cs ∧ True := by
  obtain ⟨m, rfl, hl, hf⟩ := h.struct Try.underlying39
  rw [szSym] at hl
  obtain ⟨i0, e0, _⟩ := (fldR hf 0 0 szInt rfl rfl rfl).pint Try.underlying3
  obtain ⟨i1, e1, _⟩ := (fldR hf 1 1 szString rfl rfl rfl).pstr Try.underlying9
  obtain ⟨i2, e2, _⟩ := (fldR hf 2 2 szInt rfl rfl rfl).pint Try.underlying3
  match cs, hl with
  | [x0, x1, x2], _ => exact ⟨⟨_, _, _⟩, (e0.append e1).append e2, trivial⟩

theorem rdSyms (n : Nat) (cs : List Value) (h : Reads Try.prog w n 47 cs) : ∃ l : List Sym, RepC (Zall w) [.list 3 .sh (l.map Sym.pv)] cs ∧ (∀ s ∈ l, True) ∧ l.length ≤ maxLen :=
  h.plist Try.underlying47 szSym (by omega) fun m cs _ hr => rdSym m cs hr

theorem rdTest (n : Nat) (cs : List Value) (h : Reads Try.prog w n 49 cs) : ∃ t : Test, RepC (Zall w) t.pv cs ∧ True := by
  obtain ⟨m, rfl, hl, hf⟩ := h.struct Try.underlying49
  rw [szTest] at hl
  obtain ⟨i0, e0, _⟩ := (fldR hf 0 0 szInt rfl rfl rfl).pint Try.underlying3
  obtain ⟨i1, e1, _⟩ := (fldR hf 1 1 szString rfl rfl rfl).pstr Try.underlying9
  obtain ⟨s, e2, _⟩ := rdSym _ _ (fldR hf 2 2 szSym rfl rfl rfl)
  obtain ⟨l, e3, _⟩ := rdSyms _ _ (fldR hf 3 5 szSyms rfl rfl rfl)
  match cs, hl with
  | [x0, x1, x2, x3, x4, x5], _ => exact ⟨⟨_, _, s, l⟩, ((e0.append e1).append e2).append e3, trivial⟩

theorem rdTests (n : Nat) (cs : List Value) (h : Reads Try.prog w n 35 cs) : ∃ l : List Test, RepC (Zall w) [.list 6 .sh (l.map Test.pv)] cs ∧ (∀ s ∈ l, True) ∧ l.length ≤ maxLen :=
  h.plist Try.underlying35 szTest (by omega) fun m cs _ hr => rdTest m cs hr

theorem rdCond : ∀ (n : Nat) (cs : List Value), Reads Try.prog w n 37 cs → ∃ c : Cond, RepC (Zall w) c.pv cs ∧ True := by
  intro n
  induction n using Nat.strongRecOn with
  | ind n ih =>
    intro cs h
    obtain ⟨m, rfl, hl, hf⟩ := h.struct Try.underlying37
    rw [szCond] at hl
    obtain ⟨i0, e0, _⟩ := (fldR hf 0 0 szInt rfl rfl rfl).pint Try.underlying3
    obtain ⟨i1, e1⟩ := (fldR hf 1 1 szBool rfl rfl rfl).pbool Try.underlying4
    obtain ⟨i2, e2, _⟩ := (fldR hf 2 2 szString rfl rfl rfl).pstr Try.underlying9
    obtain ⟨a3, e3, _⟩ := rdTests _ _ (fldR hf 3 3 szTests rfl rfl rfl)
    obtain ⟨a4, e4, _⟩ := rdTests _ _ (fldR hf 4 4 szTests rfl rfl rfl)
    obtain ⟨i5, e5⟩ := (fldR hf 5 5 szBool rfl rfl rfl).pbool Try.underlying4
    obtain ⟨l, e6, _⟩ := (fldR hf 6 6 szConds rfl rfl rfl).plist (pv := Cond.pv) (Q := fun _ => True) Try.underlying22 szCond (by omega) fun m' cs' hm hr => ih m' (by omega) cs' hr
    match cs, hl with
    | [x0, x1, x2, x3, x4, x5, x6], _ =>
      refine ⟨.mk i0 i1 i2 a3 a4 i5 l, ?_, trivial⟩
      rw [Cond.pv_eq]
      exact (((((e0.append e1).append e2).append e3).append e4).append e5).append e6

theorem rdConds (n : Nat) (cs : List Value) (h : Reads Try.prog w n 22 cs) : ∃ l : List Cond, RepC (Zall w) [.list 7 .sh (l.map Cond.pv)] cs ∧ (∀ s ∈ l, True) ∧ l.length ≤ maxLen :=
  h.plist Try.underlying22 szCond (by omega) fun m cs _ hr => rdCond m cs hr

end
end Go.Proofs.Ytfjemjnbemdkgaa

namespace Go.Proofs.Ytfjemjnbemdkgaa
open Go.ChangeShapes Go.WideShapes Go.ChangeAt Go.RowKit Go.Eng
set_option linter.unusedVariables false

set_option maxRecDepth 100000 in
theorem ShapeEdges.lifted (os : Os) (started : os.Started) (H : Type) (enc : TypeId × Value → H) :
    ReturnsInHanded {} Try.checked os 5 .any (Rows.shapeEdgesSpec.pre6 enc Try.prog Try.f5 Rows.shapeEdgesRow.domain false) (Rows.shapeEdgesSpec.post enc Try.prog Try.f5 false true false false) := by
  refine returnsInHanded_of_change (C := Try.checked) progOwn started (by kernel_rfl) Try.func5
    (ChangeSpec.witness6 (enc := enc) (C := Try.checked) false ⟨#[], #[.int .i64 0, .int .i64 0], []⟩ 12 (by kernel_rfl) (by kernel_rfl) (by kernel_rfl) (by kernel_rfl)) ?_
  intro W base args ds gs before hval0 hW hcnd _
  have hval : ∀ (j : Nat) t v, Try.f5.params[j]? = some t → args[j]? = some v → Value.okWide Try.prog W .any base t v := hval0
  have hW' := hW
  obtain ⟨p, q, hA0, hV, rfl, hfz, hnd⟩ := hW
  have hA : DataW.TrodAll enc Try.prog W 0 (fun _ => true) true Try.f5.params.toList args.toList ds p := hA0
  rw [Try.params5] at hA hval
  obtain ⟨v0, vs0, d0, ds0, p0, q0, hargs, rfl, rfl, h0, r0⟩ := trodAll_cons hA
  obtain ⟨v1, vs1, d1, ds1, p1, q1, rfl, rfl, rfl, h1, r1⟩ := trodAll_cons r0
  obtain ⟨rfl, rfl, rfl⟩ := trodAll_nil r1
  obtain rfl : args = #[v0, v1] := by cases args; simp_all
  obtain ⟨rfl, rfl⟩ := trodVars_none hV
  have lt0 : ∀ x ∈ p0, x.block < W.heap.size := by obtain ⟨m, hm⟩ := h0; exact DataW.trod_lt m _ _ _ hm
  obtain ⟨a0, e0, w0⟩ := pargInt Try.underlying3 (hval 0 3 v0 rfl rfl) h0
  have lt1 : ∀ x ∈ p1, x.block < W.heap.size := by obtain ⟨m, hm⟩ := h1; exact DataW.trod_lt m _ _ _ hm
  obtain ⟨a1, e1, w1⟩ := pargInt Try.underlying3 (hval 1 3 v1 rfl rfl) h1
  clear hA0 hval0
  refine (PureK.calls (vs := [v0, v1]) (cShapeEdges a0 a1) (Reps.cons rfl e0 (Reps.cons rfl e1 (Reps.nil _)))).mono fun e W' ⟨⟨v, x, Z, he, hr, hx⟩, bel⟩ => ?_
  subst hx; subst he; rw [hr.ofRaw.1]
  exact ⟨_, rfl, _, _, _, [], _, [], hW', trodAll_mk1 (shut_bool Try.underlying4 _), (trodAll_cons_mk (Below.trod progLaid (by kernel_rfl) (of_decide_eq_true (by kernel_rfl)) h0 bel lt0) (trodAll_cons_mk (Below.trod progLaid (by kernel_rfl) (of_decide_eq_true (by kernel_rfl)) h1 bel lt1) trodAll_mk0)), rfl, bel.frame _, fun h => by cases h⟩

theorem ShapeEdges.proved : Rows.ShapeEdgesSaid :=
  OpenClaim.holds_of_wide 5 Try.f5 rfl rfl rfl rfl rfl rfl rfl ⟨rfl, rfl, rfl, rfl, rfl⟩ rfl rfl rfl rfl rfl (by kernel_rfl) Try.func5 (by kernel_rfl)
    (of_decide_eq_true (by kernel_rfl)) (by unfold Func.isWrapper; first | (rw [if_pos (by decide +kernel)]; kernel_rfl) | (rw [if_neg (by decide +kernel)]; exact ⟨rfl, rfl⟩))
    (fun os started H enc _ => ShapeEdges.lifted os started H enc)

end Go.Proofs.Ytfjemjnbemdkgaa
