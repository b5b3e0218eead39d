import Derived.Test.YtfjemjnbemdkgaaCh6L
import Derived.Test.YtfjemjnbemdkgaaCh6H
import Derived.KernelRfl
/-
  The document's example.
-/
namespace Go.Proofs.Ytfjemjnbemdkgaa
open Go.Eng Go.RowKit
set_option linter.unusedVariables false
set_option linter.unusedSimpArgs false
set_option linter.unnecessarySimpa false

theorem cW (t : ByteArray) : Pure Try.prog 27 [pS t] (.agg [pI 3, pS t, pI 0]) := PureK.of (G_ponderlaw06_W.c rfl)
theorem cN (n : Int) : Pure Try.prog 21 [pI n] (.agg [pI 2, pS ⟨#[]⟩, pI n]) := PureK.of (G_ponderlaw06_N.c rfl)

def oneC (g : Bool) : Cond := .mk 1 g ⟨#[115]⟩ [⟨1, ⟨#[]⟩, ⟨3, ⟨#[120]⟩, 0⟩, []⟩] [⟨1, ⟨#[]⟩, ⟨2, ⟨#[]⟩, 1⟩, []⟩] false []
def oneA : Actn := ⟨⟨#[115]⟩, ⟨⟨#[]⟩, ⟨3, ⟨#[121]⟩, 0⟩⟩, ⟨0, ⟨⟨#[]⟩, ⟨2, ⟨#[]⟩, 2⟩⟩, ⟨⟨#[]⟩, ⟨0, ⟨#[]⟩, 0⟩⟩⟩, 1, ⟨⟨#[]⟩, ⟨0, ⟨#[]⟩, 0⟩⟩⟩
def oneP (g : Bool) : Prod := ⟨⟨#[97]⟩, [oneC g], [oneA]⟩

theorem cOneP {μ : Mem} {R : PV → Mem → Prop} (hk : ∀ μ' b c, μ b = none → μ c = none → b ≠ c → μ' b = some (.cells 37 (oneC true).pv) → μ' c = some (.cells 45 oneA.pv) → (∀ x, x ≠ b → x ≠ c → μ' x = μ x) → R (.agg [pS ⟨#[97]⟩, .raw (.slice (some ⟨b, 0, none⟩) 1 1), .raw (.slice (some ⟨c, 0, none⟩) 1 1)]) μ') : CallP Try.prog 19 [] μ R := by
  refine G_ponderlaw06_One.c ?_
  refine (cW _).call ⟨_, _, _, rfl, (cN _).call ⟨_, _, _, rfl, fun b hb => (cW _).call ⟨_, _, _, rfl, (cN _).call ⟨_, _, _, rfl, fun c hc => ?_⟩⟩⟩⟩
  have hne : b ≠ c := by rintro rfl; rw [Mem.set_same] at hc; cases hc
  have hc0 : μ c = none := by rw [Mem.set_ne _ _ (Ne.symm hne)] at hc; exact hc
  refine hk _ b c hb hc0 hne ?_ ?_ fun x h1 h2 => by rw [Mem.set_ne _ _ h2, Mem.set_ne _ _ h1]
  · rw [Mem.set_ne _ _ hne, Mem.set_same, Cond.pv_eq]; rfl
  · rw [Mem.set_same]; rfl

theorem slOne {μ : Mem} {b sz : Nat} {T : TypeId} {row : List PV} (h : μ b = some (.cells T row)) (hl : row.length = sz) (hc : allCell row = true) : SlM μ (some ⟨b, 0, none⟩) 1 1 sz [row] :=
  ⟨rfl, Nat.le_refl _, .inr fun x h => by cases h; rfl, fun r hr => by simp at hr; rw [hr]; exact hl, by simpa using hc, fun _ => ⟨b, 0, rfl, by simp [rdM, h, ← hl]⟩⟩

theorem cCheckRaw {μ : Mem} {b c : Nat} (g : Bool) (hb : μ b = some (.cells 37 (oneC g).pv)) (hc : μ c = some (.cells 45 oneA.pv)) {R : PV → Mem → Prop} (hk : R (.tup [pI (checkE (oneP g)).1, pI (checkE (oneP g)).2.1]) μ) :
    CallP Try.prog 16 [.agg [pS ⟨#[97]⟩, .raw (.slice (some ⟨b, 0, none⟩) 1 1), .raw (.slice (some ⟨c, 0, none⟩) 1 1)]] μ R := by
  refine CallP.borrow (cCheck .sh .sh (oneP g) ?_ ?_ ?_) rfl (fun i p q hp hq => ?_) (fun p hp => by rw [hp]; rfl) (fun p hp => by rw [hp]; exact hk)
  · refine ⟨(lightC_eq _).2 ⟨by cases g <;> decide, by cases g <;> decide, by cases g <;> decide, ?_, ?_, trivial⟩, trivial⟩
    · intro t ht; simp [oneC, Cond.attr] at ht; subst ht; exact ⟨by decide, by decide, by decide⟩
    · intro t ht; simp [oneC, Cond.value] at ht; subst ht; exact ⟨by decide, by decide, by decide⟩
  · simp [oneP, sizeL, sizeC_eq, oneC, Cond.conds]
  · simp [oneP]
  · cases i with
    | succ i => simp at hp
    | zero =>
      simp only [List.getElem?_cons_zero, Option.some.injEq] at hp hq
      subst hp hq
      refine .agg rfl fun j x y hx hy => ?_
      match j with
      | 0 => simp at hx hy; subst hx hy; exact .inl rfl
      | 1 =>
        simp at hx hy; subst hx hy
        exact .inr ⟨_, _, _, _, _, rfl, rfl, slOne hb (by rw [Cond.pv_eq]; rfl) (by rw [Cond.pv_eq]; rfl)⟩
      | 2 =>
        simp at hx hy; subst hx hy
        exact .inr ⟨_, _, _, _, _, rfl, rfl, slOne hc rfl rfl⟩
      | n + 3 => simp at hx

theorem check1 : (checkE (oneP true)).1 = -1 ∧ (checkE (oneP true)).2.1 = 0 := ⟨by kernel_rfl, by kernel_rfl⟩
theorem check2 : (checkE (oneP false)).1 = 0 ∧ (checkE (oneP false)).2.1 = 6 := ⟨by kernel_rfl, by kernel_rfl⟩

theorem cWakes : Pure Try.prog 12 [] (pB true) := by
  refine PureK.of (G_ponderlaw06_wakes.c ?_)
  refine cOneP fun μ b c hb hc hne h1 h2 h3 => ⟨_, _, _, _, _, _, _, rfl, ?_⟩
  refine cCheckRaw true h1 h2 ⟨_, _, rfl, ?_⟩
  refine ⟨by omega, by omega, _, _, h1, by rw [Cond.pv_eq]; simp, ?_⟩
  have e : wrL (oneC true).pv (0 + Int.toNat 0 * 7 + 1) [pB false] = (oneC false).pv := by rw [Cond.pv_eq, Cond.pv_eq]; rfl
  rw [e]
  refine cCheckRaw false (Mem.set_same _ _ _) (by rw [Mem.set_ne _ _ (Ne.symm hne)]; exact h2) ⟨_, _, rfl, ?_⟩
  rw [check1.1, check1.2, check2.1, check2.2]
  exact CIf.t rfl (CIf.t rfl (CIf.t rfl rfl))

end Go.Proofs.Ytfjemjnbemdkgaa
