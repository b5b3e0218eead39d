import Derived.Test.YtfliaomdedfleaaTsD
/-
  Tests: the laws' functions.
-/
namespace Go.Proofs.Ytfliaomdedfleaa
open Go.Eng Go.RowKit

theorem cTestOrders (w : World) (m : Int) (_ : (Lit.int .i64 m).wf = true) (n : Int) (_ : (Lit.int .i64 n).wf = true) (a : Sym) (_ : True) : FnA Try.prog 4 #[.int .i64 m, .int .i64 n, .agg #[.int .i64 a.k, .string a.t, .int .i64 a.n]] w fun v _ => v = .bool true := by
  have ee : strEq ⟨#[]⟩ ⟨#[]⟩ = true := strEq_iff.2 rfl
  have e1 : holds 1 ⟨2, ⟨#[]⟩, m⟩ ⟨2, ⟨#[]⟩, n⟩ = (m == n) := by simp [holds, symEq, ee]
  have e2 : holds 2 ⟨2, ⟨#[]⟩, m⟩ ⟨2, ⟨#[]⟩, n⟩ = !(m == n) := by simp [holds, symEq, ee]
  have e3 : holds 3 ⟨2, ⟨#[]⟩, m⟩ ⟨2, ⟨#[]⟩, n⟩ = decide (m < n) := by simp [holds]
  have e4 : holds 4 ⟨2, ⟨#[]⟩, m⟩ ⟨2, ⟨#[]⟩, n⟩ = decide (m ≤ n) := by simp [holds]
  have e5 : holds 5 ⟨2, ⟨#[]⟩, m⟩ ⟨2, ⟨#[]⟩, n⟩ = decide (m > n) := by simp [holds]
  have e6 : holds 6 ⟨2, ⟨#[]⟩, m⟩ ⟨2, ⟨#[]⟩, n⟩ = decide (m ≥ n) := by simp [holds]
  have e7 : holds 7 ⟨2, ⟨#[]⟩, m⟩ ⟨2, ⟨#[]⟩, n⟩ = true := by simp [holds]
  refine G_ponderlaw09_TestOrders.a _ _ _ _ _ _ _ ?_
  refine CallF.a (cN _ _) ?_
  rintro _ lo1 w1 hb1 rfl
  refine ⟨_, _, _, rfl, ?_⟩
  refine CallF.a (cN _ _) ?_
  rintro _ lo2 w2 hb2 rfl
  refine ⟨_, _, _, rfl, ?_⟩
  refine CallF.a (cHolds _ 3 ⟨2, ⟨#[]⟩, m⟩ ⟨2, ⟨#[]⟩, n⟩) ?_
  rintro _ lo3 w3 hb3 rfl
  have hb3 : Below w2.heap.size w2 w3 := hb3
  refine ⟨_, rfl, hb3, ?_⟩
  refine CallF.a (cHolds _ 5 ⟨2, ⟨#[]⟩, m⟩ ⟨2, ⟨#[]⟩, n⟩) ?_
  rintro _ lo4 w4 hb4 rfl
  have hb4 : Below w2.heap.size w2 w4 := Below.next hb3 hb4
  refine ⟨_, rfl, hb4, ?_⟩
  refine CallF.a (cHolds _ 1 ⟨2, ⟨#[]⟩, m⟩ ⟨2, ⟨#[]⟩, n⟩) ?_
  rintro _ lo5 w5 hb5 rfl
  have hb5 : Below w2.heap.size w2 w5 := Below.next hb4 hb5
  refine ⟨_, rfl, hb5, ?_⟩
  simp only [e1, e3, e5]
  have last : ∀ u : UW, CIf (a.k == 2)
      (CallF Try.prog 11 #[] u fun v u' => ∃ x : Bool, v = .bool x ∧ Value.bool x = .bool true)
      (CallF Try.prog 9 #[.int .i64 3, .agg #[.int .i64 a.k, .string a.t, .int .i64 a.n], .agg #[.int .i64 2, .string ⟨#[]⟩, .int .i64 m]] u fun v u' => ∃ x : Bool, v = .bool x ∧ CIf (!x)
        (CallF Try.prog 9 #[.int .i64 4, .agg #[.int .i64 a.k, .string a.t, .int .i64 a.n], .agg #[.int .i64 a.k, .string a.t, .int .i64 a.n]] u' fun v u' => ∃ x : Bool, v = .bool x ∧ CIf (!x)
          (CallF Try.prog 9 #[.int .i64 6, .agg #[.int .i64 2, .string ⟨#[]⟩, .int .i64 m], .agg #[.int .i64 a.k, .string a.t, .int .i64 a.n]] u' fun v u' => ∃ x : Bool, v = .bool x ∧ CIf (!x)
            (CallF Try.prog 9 #[.int .i64 7, .agg #[.int .i64 a.k, .string a.t, .int .i64 a.n], .agg #[.int .i64 2, .string ⟨#[]⟩, .int .i64 m]] u' fun v u' => ∃ x : Bool, v = .bool x ∧ CIf (!x)
              (CallF Try.prog 9 #[.int .i64 1, .agg #[.int .i64 a.k, .string a.t, .int .i64 a.n], .agg #[.int .i64 a.k, .string a.t, .int .i64 a.n]] u' fun v u' => ∃ x : Bool, v = .bool x ∧ CIf x
                (CallF Try.prog 9 #[.int .i64 7, .agg #[.int .i64 a.k, .string a.t, .int .i64 a.n], .agg #[.int .i64 a.k, .string a.t, .int .i64 a.n]] u' fun v u' => ∃ x : Bool, v = .bool x ∧ CIf x
                  (CallF Try.prog 11 #[] u' fun v u' => ∃ x : Bool, v = .bool x ∧ Value.bool x = .bool true)
                  (Value.bool false = .bool true))
                (Value.bool false = .bool true))
              (Value.bool false = .bool true))
            (Value.bool false = .bool true))
          (Value.bool false = .bool true))
        (Value.bool false = .bool true)) := by
    intro u
    refine CIf.mk (fun h => ?_) (fun h => ?_)
    · refine CallF.a (cWakes _) ?_
      rintro _ _ _ _ rfl
      exact ⟨_, rfl, rfl⟩
    · have hk : ¬ a.k = 2 := by simpa using h
      have hk' : ¬ 2 = a.k := fun e => hk e.symm
      refine CallF.a (cHolds _ 3 a ⟨2, ⟨#[]⟩, m⟩) ?_
      rintro _ _ _ _ rfl
      refine ⟨_, rfl, CIf.t (by simp [holds, hk]) ?_⟩
      refine CallF.a (cHolds _ 4 a a) ?_
      rintro _ _ _ _ rfl
      refine ⟨_, rfl, CIf.t (by simp [holds, hk]) ?_⟩
      refine CallF.a (cHolds _ 6 ⟨2, ⟨#[]⟩, m⟩ a) ?_
      rintro _ _ _ _ rfl
      refine ⟨_, rfl, CIf.t (by simp [holds, hk]) ?_⟩
      refine CallF.a (cHolds _ 7 a ⟨2, ⟨#[]⟩, m⟩) ?_
      rintro _ _ _ _ rfl
      refine ⟨_, rfl, CIf.t (by simp [holds, hk]) ?_⟩
      refine CallF.a (cHolds _ 1 a a) ?_
      rintro _ _ _ _ rfl
      refine ⟨_, rfl, CIf.t (by rw [holds]; exact symEq_self a) ?_⟩
      refine CallF.a (cHolds _ 7 a a) ?_
      rintro _ _ _ _ rfl
      refine ⟨_, rfl, CIf.t (by simp [holds]) ?_⟩
      refine CallF.a (cWakes _) ?_
      rintro _ _ _ _ rfl
      exact ⟨_, rfl, rfl⟩
  have hc : ((m == n) = false ∧ decide (m < n) = true ∧ decide (m > n) = false ∧ decide (m ≤ n) = true ∧ decide (m ≥ n) = false) ∨ ((m == n) = true ∧ decide (m < n) = false ∧ decide (m > n) = false ∧ decide (m ≤ n) = true ∧ decide (m ≥ n) = true) ∨ ((m == n) = false ∧ decide (m < n) = false ∧ decide (m > n) = true ∧ decide (m ≤ n) = false ∧ decide (m ≥ n) = true) := by
    rcases Int.lt_trichotomy m n with h | h | h <;> simp <;> omega
  rcases hc with ⟨g1, g3, g5, g4, g6⟩ | ⟨g1, g3, g5, g4, g6⟩ | ⟨g1, g3, g5, g4, g6⟩
  all_goals
    simp only [g1, g3, g5, CIf, Bool.not_true, Bool.not_false]
    refine CJoin.of fun J hJ => ?_
    refine hJ _ _ ?_
    refine CJoin.of fun J2 hJ2 => ?_
    refine CallF.a (cHolds _ 4 ⟨2, ⟨#[]⟩, m⟩ ⟨2, ⟨#[]⟩, n⟩) ?_
    rintro _ lo6 w6 hb6 rfl
    refine ⟨_, rfl, ?_⟩
    rw [e4, g4]
    refine CallF.a (cHolds _ 6 ⟨2, ⟨#[]⟩, m⟩ ⟨2, ⟨#[]⟩, n⟩) ?_
    rintro _ lo7 w7 hb7 rfl
    refine ⟨_, rfl, ?_⟩
    rw [e6, g6]
    refine CallF.a (cHolds _ 2 ⟨2, ⟨#[]⟩, m⟩ ⟨2, ⟨#[]⟩, n⟩) ?_
    rintro _ lo8 w8 hb8 rfl
    refine ⟨_, rfl, ?_⟩
    rw [e2, g1]
    refine CallF.a (cHolds _ 7 ⟨2, ⟨#[]⟩, m⟩ ⟨2, ⟨#[]⟩, n⟩) ?_
    rintro _ lo9 w9 hb9 rfl
    refine ⟨_, rfl, ?_⟩
    rw [e7]
    exact hJ2 _ _ (last _)

theorem getB_mem {l : List Eng.Bind} {k : Nat} (hk : k < l.length) : ∃ s, getB l l[k].v = some s := by
  induction l generalizing k with
  | nil => simp at hk
  | cons b l ih =>
    cases k with
    | zero => exact ⟨b.s, by simp [getB, strEq_iff]⟩
    | succ k =>
      simp only [List.getElem_cons_succ, getB]
      split
      · exact ⟨_, rfl⟩
      · exact ih (by simpa using hk)

theorem cTestGets (w : World) {a : Option Addr} {n c : Nat} {l : List Eng.Bind} (hl : SlC w.heap a n c 4 (l.map Bind.cells)) (_ : ∀ s ∈ l, True) (v : ByteArray) (_ : v.size ≤ maxLen) : FnA Try.prog 6 #[.slice a n c, .string v] w fun r _ => r = .bool true := by
  have ee : ∀ x : ByteArray, strEq x x = true := fun x => strEq_iff.2 rfl
  refine G_ponderlaw09_TestGets.a _ _ _ _ _ _ ?_
  refine CIf.mk (fun h => ?_) (fun h => ?_)
  · refine CallF.a (cWakes _) ?_
    rintro _ _ _ _ rfl
    exact ⟨_, rfl, rfl⟩
  · have hn : n ≤ 100 := by simp at h; omega
    refine LoopI.up n (by omega) (fun k u => Below w.heap.size w u.toWorld) (Below.refl _ _) ?_
    intro k u next hk hb hnext
    refine CIf.mk (fun h => ?_) (fun h => ?_)
    · have hlt : k < n := by simpa using h
      have hl1 := hl.below hb
      obtain ⟨b, o, hkl, rfl, hr⟩ := hl1.get hlt
      refine withSl_some ⟨by omega, by omega, _, rd_sub (i := 0) (k := 1) hr (by omega), ?_⟩
      refine CallF.a (cGet hl1 (by omega) _) ?_
      rintro _ lo1 w1 hb1 rfl
      obtain ⟨s, hs⟩ := getB_mem hkl
      rw [hs]
      refine ⟨_, _, _, _, rfl, withSl_some ⟨by omega, by omega, _, rd_sub (i := 0) (k := 1) (Below.rd hb1 hr) (by omega), ?_⟩⟩
      refine CallF.a (cRefGet (hl1.below hb1) (by omega) _) ?_
      rintro _ lo2 w2 hb2 rfl
      rw [hs]
      exact ⟨_, _, _, _, rfl, CIf.f rfl (CIf.f rfl (CIf.f (by simp [ee]) (hnext hlt _ (Below.next (Below.next hb hb1) hb2))))⟩
    · have hl1 := hl.below hb
      refine CallF.a (cGet hl1 (by omega) _) ?_
      rintro _ lo1 w1 hb1 rfl
      cases hg : getB l v with
      | none =>
        refine ⟨_, _, _, _, rfl, ?_⟩
        refine CallF.a (cRefGet (hl1.below hb1) (by omega) _) ?_
        rintro _ lo2 w2 hb2 rfl
        rw [hg]
        refine ⟨_, _, _, _, rfl, CIf.t (by simp [ee]) (CIf.t rfl ?_)⟩
        refine CallF.a (cWakes _) ?_
        rintro _ _ _ _ rfl
        exact ⟨_, rfl, rfl⟩
      | some s =>
        refine ⟨_, _, _, _, rfl, ?_⟩
        refine CallF.a (cRefGet (hl1.below hb1) (by omega) _) ?_
        rintro _ lo2 w2 hb2 rfl
        rw [hg]
        refine ⟨_, _, _, _, rfl, CIf.t (by simp [ee]) (CIf.t rfl ?_)⟩
        refine CallF.a (cWakes _) ?_
        rintro _ _ _ _ rfl
        exact ⟨_, rfl, rfl⟩

/-- What a function has handed back as new is spoilt: nothing older is touched. -/
def Spoil (w0 : World) (xa : Option Addr) (xn : Nat) (u : UW) : Prop := Below w0.heap.size w0 u.toWorld ∧ (xn ≠ 0 → ∃ b o C T, xa = some ⟨b, o, none⟩ ∧ w0.heap.size ≤ b ∧ u.pub b ∧ u.heap[b]? = some (.cells C T (0, 0)) ∧ o + xn * 4 ≤ C.size)

theorem Spoil.of {w0 w : World} {lo : Nat} {pub : Nat → Prop} {xa : Option Addr} {xn xc : Nat} {css : List (List Value)} (hb : Below w0.heap.size w0 w) (h : NewSl lo w.heap xa xn xc 4 css) (hlo : w0.heap.size ≤ lo) (hp : ∀ b, lo ≤ b → b < w.heap.size → pub b) : Spoil w0 xa xn ⟨w, pub⟩ := by
  refine ⟨hb, fun hn => ?_⟩
  obtain ⟨b, o, e, _⟩ := h.sl.read hn
  obtain ⟨h1, C, T, h2, h3⟩ := h.own b o e
  have := h.sl.cap
  exact ⟨b, o, C, T, e, Nat.le_trans hlo h1, hp b h1 (Array.getElem?_eq_some_iff.1 h2).1, h2, by omega⟩

theorem Spoil.below {w0 : World} {u : UW} {w' : World} {pub : Nat → Prop} {xa : Option Addr} {xn : Nat} (h : Spoil w0 xa xn u) (hb : Below u.heap.size u.toWorld w') (hp : ∀ b, u.pub b → pub b) : Spoil w0 xa xn ⟨w', pub⟩ := by
  refine ⟨Below.next h.1 hb, fun hn => ?_⟩
  obtain ⟨b, o, C, T, h1, h2, h3, h4, h5⟩ := h.2 hn
  exact ⟨b, o, C, T, h1, h2, hp b h3, by rw [hb.block b (Array.getElem?_eq_some_iff.1 h4).1]; exact h4, h5⟩

/-- One store of the spoiling. -/
theorem Spoil.store {w0 : World} {u : UW} {xa : Option Addr} {xn k : Nat} {v : Value} {K : UW → Prop} (h : Spoil w0 xa xn u) (hk : k < xn) (hK : ∀ u', Spoil w0 xa xn u' → K u') :
    withSl xa fun b o => (0 : Int) ≤ (k : Int) ∧ (k : Int) < ((xn : Nat) : Int) ∧ cStore b (o + Int.toNat (k : Int) * 4) [v] u K := by
  obtain ⟨b, o, C, T, rfl, h2, h3, h4, h5⟩ := h.2 (by omega)
  refine withSl_some ⟨by omega, by omega, C, T, h4, by simp; omega, h3, fun w' hst => hK _ ⟨stoBelow h.1 hst h2, fun _ => ⟨b, o, _, T, rfl, h2, h3, hst.at_, by rw [wrA_size]; exact h5⟩⟩⟩

theorem cTestOnes (w : World) (t : Test) (ht0 : ∃ ls : List Sym, SlR w.heap t.la t.ln t.lc 3 (ls.map Sym.cells)) (s : Sym) (_ : True) {a : Option Addr} {n c : Nat} {l : List Eng.Bind} (hl : SlC w.heap a n c 4 (l.map Bind.cells)) (_ : ∀ s ∈ l, True) :
    FnA Try.prog 5 #[.agg #[.int .i64 t.rel, .string t.var, .int .i64 t.sym.k, .string t.sym.t, .int .i64 t.sym.n, .slice t.la t.ln t.lc], .agg #[.int .i64 s.k, .string s.t, .int .i64 s.n], .slice a n c] w fun r _ => r = .bool true := by
  obtain ⟨ls, ht0⟩ := ht0
  refine G_ponderlaw09_TestOnes.a _ _ _ _ _ _ _ _ _ _ _ _ _ _ _ _ ?_
  refine ⟨fun q u => u = ⟨w, fun _ => False⟩ ∧ (q = false → t.ln ≤ 20 ∧ n ≤ 40), ?_, ?_⟩
  · refine CIf.mk (fun h => ⟨rfl, fun h => by cases h⟩) (fun h => ⟨rfl, fun h' => ?_⟩)
    simp at h h'; omega
  · rintro q _ ⟨rfl, hq⟩
    refine CIf.mk (fun h => ?_) (fun h => ?_)
    · refine CallF.a (cWakes _) ?_
      rintro _ _ _ _ rfl
      exact ⟨_, rfl, rfl⟩
    · obtain ⟨hln, hn⟩ := hq h
      have ht : TestIn w.heap t ls := ⟨ht0, by omega⟩
      refine CallF.b (cCopy hl (by omega)) (fun _ h => h.elim) ?_
      rintro _ lo1 w1 hm1 _ ⟨a1, n1, c1, rfl, hN1⟩
      have hb1 := hm1.below
      have h1 := hN1.sl
      have hn1 : n1 = n := by rw [← h1.length, hl.length]
      refine ⟨_, _, _, rfl, ?_⟩
      refine CallF.b (cOne (w := w1) s (ht.below hb1) h1 (by omega)) (fun _ h => h.elim) ?_
      rintro _ lo2 w2 hm2 hlo2 ⟨a2, n2, c2, q2, rfl, hq2, hN2⟩
      have hb2 : Below w1.heap.size w1 w2 := hm2.below
      have hlo2 : w1.heap.size ≤ lo2 := hlo2
      refine ⟨_, _, _, _, rfl, ?_⟩
      refine CallF.a (cRefOne (w := w2) s (ht.below (Below.next hb1 hb2)) (hl.below (Below.next hb1 hb2)) (by omega)) ?_
      rintro _ lo3 w3 hb3 ⟨a3, n3, c3, q3, rfl, hq3, h3⟩
      have hb3 : Below w2.heap.size w2 w3 := hb3
      refine ⟨_, _, _, _, rfl, CIf.f (by simp [hq2, hq3]) ?_⟩
      have hlen : n2 ≤ 41 := by
        rw [← hN2.sl.length]
        cases hm : met t ls s l with
        | none => simp
        | some l' => have := met_len hm; have := hl.length; simp; omega
      refine CallF.a (cBinds (w := w3) (hN2.sl.below hb3) h3 (by omega)) ?_
      rintro _ lo4 w4 hb4 ⟨q4, rfl, hq4⟩
      refine ⟨_, rfl, CIf.f (by simp [hq4]) ?_⟩
      refine LoopI.up n2 (by omega) (fun k u => Spoil w1 a2 n2 u) ?_ ?_
      · refine Spoil.below (u := UW.ret (UW.ret (UW.ret ⟨w, fun _ => False⟩ lo1 w1) lo2 w2) lo3 w3) ?_ hb4 fun b h => .inl h
        refine Spoil.below (u := UW.ret (UW.ret ⟨w, fun _ => False⟩ lo1 w1) lo2 w2) ?_ hb3 fun b h => .inl h
        exact Spoil.of hb2 hN2 hlo2 fun b h1 h2 => .inr ⟨h1, h2⟩
      · intro k u next hk hI hnext
        refine CIf.mk (fun h => ?_) (fun h => ?_)
        · have hlt : k < n2 := by simpa using h
          exact hI.store hlt fun u' hu' => hnext hlt u' hu'
        · refine CallF.a (cBinds (h1.below hI.1) ((hl.below hb1).below hI.1) (by omega)) ?_
          rintro _ lo5 w5 hb5 ⟨q5, rfl, hq5⟩
          refine ⟨_, rfl, CIf.t (by simp [hq5]) ?_⟩
          refine CallF.a (cWakes _) ?_
          rintro _ _ _ _ rfl
          exact ⟨_, rfl, rfl⟩

end Go.Proofs.Ytfliaomdedfleaa
