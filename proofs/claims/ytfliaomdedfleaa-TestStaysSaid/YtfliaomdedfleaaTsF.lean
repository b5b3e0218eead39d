import Derived.Test.YtfliaomdedfleaaTsE
import Derived.Test.YtfliaomdedfleaaDomB
/-
  Tests: what is heavy; TestStays.
-/
namespace Go.Proofs.Ytfliaomdedfleaa
open Go.Eng Go.RowKit

theorem cHeavyTests {w : World} {a : Option Addr} {n c : Nat} {ts : List (Test × List Sym)} (h : TestsR w.heap a n c ts) : FnA Try.prog 36 #[.slice a n c] w fun v _ => ∃ q, v = .bool q ∧ (q = false → ∀ p ∈ ts, p.1.ln ≤ 20) := by
  refine G_ponderkeep_heavyTests.a _ _ _ _ _ ?_
  have hlen := h.sl.length
  have hm := h.len
  simp only [maxLen] at hm
  refine LoopI.up n (by omega) (fun k u => u = ⟨w, fun _ => False⟩ ∧ ∀ p ∈ ts.take k, p.1.ln ≤ 20) ⟨rfl, by simp⟩ ?_
  rintro k u next hk ⟨rfl, hg⟩ hnext
  refine CIf.mk (fun h' => ?_) (fun h' => ?_)
  · have hlt : k < n := by simpa using h'
    obtain ⟨b, o, hkl, rfl, hr⟩ := h.sl.get hlt
    refine withSl_some ⟨by omega, by omega, _, _, _, rd_sub (i := 5) (k := 1) hr (by omega), CIf.mk (fun _ => ⟨_, rfl, fun h => by cases h⟩) (fun h20 => ?_)⟩
    refine withSl_some ⟨by omega, by omega, _, rd_sub (i := 1) (k := 1) hr (by omega), CIf.mk (fun _ => ⟨_, rfl, fun h => by cases h⟩) (fun _ => ?_)⟩
    refine withSl_some ⟨by omega, by omega, _, rd_sub (i := 3) (k := 1) hr (by omega), CIf.mk (fun _ => ⟨_, rfl, fun h => by cases h⟩) (fun _ => ?_)⟩
    refine hnext hlt _ ⟨rfl, fun p hp => ?_⟩
    rw [List.take_add_one, List.getElem?_eq_getElem hkl] at hp
    rcases List.mem_append.1 hp with hp | hp
    · exact hg p hp
    · simp at hp; subst hp; simp at h20; omega
  · have : k = n := by simp at h'; omega
    subst this
    rw [← hlen, List.take_length] at hg
    exact ⟨_, rfl, fun _ => hg⟩

/-- No list of its tests is long. -/
def Small (H : Heap) (cd : CondD) : Prop := (∀ ts, TestsR H cd.aa cd.an cd.ac ts → ∀ p ∈ ts, p.1.ln ≤ 20) ∧ ∀ ts, TestsR H cd.va cd.vn cd.vc ts → ∀ p ∈ ts, p.1.ln ≤ 20

theorem SlR.unique {H : Heap} {a : Option Addr} {n c sz : Nat} {xs ys : List (List Value)} (h1 : SlR H a n c sz xs) (h2 : SlR H a n c sz ys) : xs = ys := by
  refine List.ext_getElem (by rw [h1.len, h2.len]) fun i hi1 hi2 => ?_
  obtain ⟨b, o, e, hr⟩ := h1.at hi1
  obtain ⟨b', o', e', hr'⟩ := h2.at hi2
  rw [e] at e'
  simp only [Option.some.injEq, Addr.mk.injEq] at e'
  obtain ⟨rfl, rfl, _⟩ := e'
  rw [hr] at hr'
  simpa using hr'

theorem heavyAll {H : Heap} {a : Option Addr} {n c : Nat} {ts : List (Test × List Sym)} (h : TestsR H a n c ts) (hs : ∀ p ∈ ts, p.1.ln ≤ 20) : ∀ ts', TestsR H a n c ts' → ∀ p ∈ ts', p.1.ln ≤ 20 := by
  intro ts' h' p hp
  have e := SlR.unique h.sl h'.sl
  have hm : p.1.cells ∈ ts.map (fun p => p.1.cells) := by rw [e]; exact List.mem_map.2 ⟨p, hp, rfl⟩
  obtain ⟨p', hp', e'⟩ := List.mem_map.1 hm
  have := hs p' hp'
  simp only [Test.cells, List.cons.injEq, Value.slice.injEq] at e'
  have e2 : p'.1.ln = p.1.ln := e'.2.2.2.2.2.1.2.1
  omega

theorem cHeavyConds : ∀ (f : Nat) {w : World} {a : Option Addr} {n c : Nat}, CondsR w.heap f a n c → FnA Try.prog 30 #[.slice a n c] w fun v _ => ∃ q, v = .bool q ∧ (q = false → ∀ cds : List CondD, SlR w.heap a n c 7 (cds.map CondD.cells) → ∀ cd ∈ cds, Small w.heap cd)
  | 0, _, _, _, _, h => h.elim
  | f + 1, w, a, n, c, ⟨hm, cds, hs, he⟩ => by
    refine G_ponderkeep_HeavyConds.a _ _ _ _ _ ?_
    have hlen := hs.length
    simp only [maxLen] at hm
    refine LoopI.up n (by omega) (fun k u => Below w.heap.size w u.toWorld ∧ ∀ cd ∈ cds.take k, Small w.heap cd) ⟨Below.refl _ _, by simp⟩ ?_
    rintro k u next hk ⟨hb, hg⟩ hnext
    refine CIf.mk (fun h' => ?_) (fun h' => ?_)
    · have hlt : k < n := by simpa using h'
      obtain ⟨b, o, hkl, rfl, hr⟩ := (hs.below hb).get hlt
      obtain ⟨⟨ats, hat⟩, ⟨vts, hvt⟩, hc⟩ := he _ (List.getElem_mem hkl)
      refine withSl_some ⟨by omega, by omega, _, _, _, _, _, _, _, _, _, _, _, _, _, hr, ?_⟩
      refine CIf.mk (fun _ => ⟨_, rfl, fun h => by cases h⟩) (fun _ => CIf.mk (fun _ => ⟨_, rfl, fun h => by cases h⟩) (fun _ => CIf.mk (fun _ => ⟨_, rfl, fun h => by cases h⟩) (fun _ => ?_)))
      refine CallF.a (cHeavyTests (hat.below hb)) ?_
      rintro _ lo1 w1 hb1 ⟨q1, rfl, hq1⟩
      refine ⟨_, rfl, CIf.mk (fun _ => ⟨_, rfl, fun h => by cases h⟩) (fun h1 => ?_)⟩
      refine CallF.a (cHeavyTests ((hvt.below hb).below hb1)) ?_
      rintro _ lo2 w2 hb2 ⟨q2, rfl, hq2⟩
      refine ⟨_, rfl, CIf.mk (fun _ => ⟨_, rfl, fun h => by cases h⟩) (fun h2 => ?_)⟩
      refine CallF.a (cHeavyConds f (((hc.below hb).below hb1).below hb2)) ?_
      rintro _ lo3 w3 hb3 ⟨q3, rfl, hq3⟩
      refine ⟨_, rfl, CIf.mk (fun _ => ⟨_, rfl, fun h => by cases h⟩) (fun h3 => ?_)⟩
      refine hnext hlt _ ⟨Below.next (Below.next (Below.next hb hb1) hb2) hb3, fun cd hcd => ?_⟩
      rw [List.take_add_one, List.getElem?_eq_getElem hkl] at hcd
      rcases List.mem_append.1 hcd with hcd | hcd
      · exact hg cd hcd
      · simp at hcd; subst hcd
        exact ⟨heavyAll hat (hq1 h1), heavyAll hvt (hq2 h2)⟩
    · have : k = n := by simp at h'; omega
      subst this
      rw [← hlen, List.take_length] at hg
      refine ⟨_, rfl, fun _ cds' hs' cd hcd => ?_⟩
      have e := SlR.unique hs hs'
      have hm : cd.cells ∈ cds.map CondD.cells := by rw [e]; exact List.mem_map.2 ⟨cd, hcd, rfl⟩
      obtain ⟨cd', hcd', e'⟩ := List.mem_map.1 hm
      have := hg cd' hcd'
      have e2 : cd' = cd := by
        obtain ⟨⟩ := cd'; obtain ⟨⟩ := cd
        simp only [CondD.cells, List.cons.injEq, Value.int.injEq, Value.bool.injEq, Value.string.injEq, Value.slice.injEq] at e'
        obtain ⟨⟨_, rfl⟩, rfl, rfl, ⟨rfl, rfl, rfl⟩, ⟨rfl, rfl, rfl⟩, rfl, ⟨rfl, rfl, rfl⟩, _⟩ := e'
        rfl
      rw [← e2]; exact this

theorem cSize : ∀ (f : Nat) {w : World} {a : Option Addr} {n c : Nat} (most deep : Int), CondsR w.heap f a n c → FnA Try.prog 31 #[.slice a n c, .int .i64 most, .int .i64 deep] w fun v _ => ∃ k, v = .int .i64 k
  | 0, _, _, _, _, _, _, h => h.elim
  | f + 1, w, a, n, c, most, deep, ⟨hm, cds, hs, he⟩ => by
    refine G_ponderkeep_Size.a _ _ _ _ _ _ _ ?_
    have hlen := hs.length
    simp only [maxLen] at hm
    refine CIf.mk (fun _ => ⟨_, rfl⟩) (fun _ => ⟨fun _ _ => True, ?_, fun _ _ _ => ⟨_, rfl⟩⟩)
    refine LoopI.up2 n (by omega) (fun k x u => Below w.heap.size w u.toWorld) (Below.refl _ _) ?_
    intro k x u next hk hb hnext
    refine CIf.mk (fun h' => CIf.mk (fun _ => ?_) (fun _ => trivial)) (fun _ => trivial)
    have hlt : k < n := by simpa using h'
    obtain ⟨b, o, hkl, rfl, hr⟩ := (hs.below hb).get hlt
    obtain ⟨_, _, hc⟩ := he _ (List.getElem_mem hkl)
    refine withSl_some ⟨by omega, by omega, _, _, _, rd_sub (i := 6) (k := 1) hr (by omega), ?_⟩
    refine CallF.a (cSize f _ _ (hc.below hb)) ?_
    rintro _ lo1 w1 hb1 ⟨i, rfl⟩
    exact ⟨_, rfl, hnext hlt _ _ (Below.next hb hb1)⟩

theorem condsOne {w : World} {b : Nat} {T : TypeId} {cd : CondD} {f : Nat} (h : w.heap[b]? = some (.cells cd.cells.toArray T (0, 0))) (ha : ∃ ats, TestsR w.heap cd.aa cd.an cd.ac ats) (hv : ∃ vts, TestsR w.heap cd.va cd.vn cd.vc vts) (hc : CondsR w.heap f cd.ca cd.cn cd.cc) : CondsR w.heap (f + 1) (some ⟨b, 0, none⟩) 1 1 :=
  ⟨by simp [maxLen], [cd], (SlC.one h).toSlR, fun cd' h' => by simp only [List.mem_singleton] at h'; subst h'; exact ⟨ha, hv, hc⟩⟩

theorem cHeavy {w : World} {cd : CondD} (hcd : CondR w.heap cd) (a : Option Addr) (n c : Nat) : FnA Try.prog 19 #[.agg #[.int .i64 cd.kind, .bool cd.goal, .string cd.id, .slice cd.aa cd.an cd.ac, .slice cd.va cd.vn cd.vc, .bool cd.acc, .slice cd.ca cd.cn cd.cc], .slice a n c] w fun v _ => ∃ q, v = .bool q ∧ (q = false → n ≤ 40 ∧ cd.an ≤ 10 ∧ cd.vn ≤ 10 ∧ Small w.heap cd) := by
  refine G_ponderlaw09_heavy.a _ _ _ _ _ _ _ _ _ _ _ _ _ _ _ _ _ _ ?_
  refine CIf.mk (fun _ => ⟨_, rfl, fun h => by cases h⟩) (fun h1 => CIf.mk (fun _ => ⟨_, rfl, fun h => by cases h⟩) (fun h2 => CIf.mk (fun _ => ⟨_, rfl, fun h => by cases h⟩) (fun h3 => ?_)))
  intro b1 w1 hB1
  have hcd1 : CondR w1.heap cd := CondR.below (w := w) hcd hB1.below
  obtain ⟨f, hf⟩ := hcd1.conds
  refine CallF.a (cHeavyConds (f + 1) (w := w1) (condsOne hB1.at_ hcd1.attr hcd1.value hf)) ?_
  rintro _ lo2 w2 hb2 ⟨q, rfl, hq⟩
  have hb2 : Below w1.heap.size w1 w2 := hb2
  refine ⟨_, rfl, CIf.mk (fun _ => ⟨_, rfl, fun h => by cases h⟩) (fun h4 => ?_)⟩
  intro b3 w3 hB3
  have hB3b : Below w2.heap.size w2 w3 := hB3.below
  have hcd3 : CondR w3.heap cd := CondR.below (w := w1) hcd1 (Below.next hb2 hB3b)
  obtain ⟨f3, hf3⟩ := hcd3.conds
  refine CallF.a (cSize (f3 + 1) (w := w3) 20 0 (condsOne hB3.at_ hcd3.attr hcd3.value hf3)) ?_
  rintro _ lo4 w4 hb4 ⟨k, rfl⟩
  refine ⟨_, rfl, _, rfl, fun _ => ?_⟩
  have hsm := hq h4 [cd] (SlC.one (H := w1.heap) hB1.at_).toSlR cd (by simp)
  simp at h1 h2 h3
  refine ⟨by omega, by omega, by omega, fun ts ht => hsm.1 ts (TestsR.below (w := w) ht hB1.below), fun ts ht => hsm.2 ts (TestsR.below (w := w) ht hB1.below)⟩

theorem TestsR.small {H : Heap} {a : Option Addr} {n c : Nat} {ts : List (Test × List Sym)} (h : TestsR H a n c ts) (hs : ∀ p ∈ ts, p.1.ln ≤ 20) : TestsIn H a n c ts := ⟨h.sl, fun p hp => ⟨h.each p hp, by have := hs p hp; omega⟩⟩

theorem SlC.cut {H : Heap} {a : Option Addr} {n c sz m : Nat} {css : List (List Value)} (h : SlC H a n c sz css) (hm : m ≤ n) : SlC H a m c sz (css.take m) := by
  refine ⟨⟨by rw [List.length_take, h.len]; omega, Nat.le_trans hm h.cap, fun x hx => h.each x (List.mem_of_mem_take hx), fun hn => ?_⟩, h.spot⟩
  obtain ⟨b, o, e, hr⟩ := h.read (by omega)
  refine ⟨b, o, e, ?_⟩
  have hle : m * sz ≤ n * sz := Nat.mul_le_mul_right _ hm
  have h0 := rd_sub (i := 0) (k := m * sz) hr (by omega)
  simp only [Nat.add_zero, List.drop_zero] at h0
  rw [h0]
  congr 1
  have e1 : css.flatten = (css.take m).flatten ++ (css.drop m).flatten := by rw [← List.flatten_append, List.take_append_drop]
  have e2 : (css.take m).flatten.length = m * sz := by
    rw [flat_len (sz := sz) (fun x hx => h.each x (List.mem_of_mem_take hx)), List.length_take, h.len, Nat.min_eq_left hm]
  rw [e1, List.take_append_of_le_length (by omega), List.take_of_length_le (by omega)]

theorem cTestStays (w : World) (cd : CondD) (hcd : CondR w.heap cd) (e : Elem) (_ : True) {a : Option Addr} {n c : Nat} {l : List Eng.Bind} (hl : SlC w.heap a n c 4 (l.map Bind.cells)) (_ : ∀ s ∈ l, True) :
    FnA Try.prog 7 #[.agg #[.int .i64 cd.kind, .bool cd.goal, .string cd.id, .slice cd.aa cd.an cd.ac, .slice cd.va cd.vn cd.vc, .bool cd.acc, .slice cd.ca cd.cn cd.cc], .agg #[.int .i64 e.id.k, .string e.id.t, .int .i64 e.id.n, .int .i64 e.attr.k, .string e.attr.t, .int .i64 e.attr.n, .int .i64 e.value.k, .string e.value.t, .int .i64 e.value.n, .bool e.acc, .bool e.goal, .int .i64 e.tag], .slice a n c] w fun r _ => r = .bool true := by
  have wk : ∀ u : UW, CallF Try.prog 11 #[] u fun v u' => ∃ x : Bool, v = .bool x ∧ Value.bool x = .bool true := by
    intro u
    refine CallF.a (cWakes _) ?_
    rintro _ _ _ _ rfl
    exact ⟨_, rfl, rfl⟩
  refine G_ponderlaw09_TestStays.a _ _ _ _ _ _ _ _ _ _ _ _ _ _ _ _ _ _ _ _ _ _ _ _ _ _ _ _ _ _ ?_
  refine CallF.a (cHeavy hcd a n c) ?_
  rintro _ lo1 w1 hb1 ⟨q, rfl, hq⟩
  refine ⟨_, rfl, CIf.mk (fun _ => wk _) (fun h => ?_)⟩
  obtain ⟨hn, han, hvn, hsm⟩ := hq h
  obtain ⟨ats, hat0⟩ := hcd.attr
  obtain ⟨vts, hvt0⟩ := hcd.value
  have hat : TestsIn w.heap cd.aa cd.an cd.ac ats := TestsR.small hat0 (hsm.1 ats hat0)
  have hvt : TestsIn w.heap cd.va cd.vn cd.vc vts := TestsR.small hvt0 (hsm.2 vts hvt0)
  have hal := hat.sl.length
  have hvl := hvt.sl.length
  have hll := hl.length
  refine CallF.b (cCond (w := w1) e (hat.below hb1) (hvt.below hb1) (hl.below hb1) (by omega)) (fun _ h => h.elim) ?_
  rintro _ lo2 w2 hm2 _ ⟨a2, n2, c2, q2, rfl, hq2, hN2⟩
  have hb2 : Below w1.heap.size w1 w2 := hm2.below
  cases hc : condS cd ats vts e l with
  | none =>
    rw [hc] at hq2 hN2
    subst hq2
    have hn2 : n2 = 0 := hN2.sl.length.symm
    subst hn2
    exact ⟨_, _, _, _, rfl, CIf.t rfl (CIf.t rfl (wk _))⟩
  | some lx =>
    rw [hc] at hq2 hN2
    subst hq2
    obtain ⟨⟨r, hr⟩, hagain⟩ := condS_again hc
    have hclen := condS_len hc
    have hx : SlC w2.heap a2 n2 c2 4 (lx.map Bind.cells) := hN2.sl
    have hxl := hx.length
    have hxc := hx.cap
    have hnx : n ≤ n2 := by rw [← hxl, ← hll, hr]; simp
    refine ⟨_, _, _, _, rfl, CIf.f rfl (CIf.f (by simp; omega) ⟨hx.spot, by omega, by omega, by omega, by omega, ?_⟩)⟩
    simp only [Int.toNat_zero, Int.toNat_natCast, Nat.sub_zero, slA_zero hx.spot]
    have hcut : SlC w2.heap a2 n c2 4 (l.map Bind.cells) := by
      have := SlC.cut hx hnx
      rw [← List.map_take] at this
      rw [show lx.take n = l by rw [hr, ← hll]; simp] at this
      exact this
    refine CallF.a (cBinds (w := w2) hcut ((hl.below hb1).below hb2) (by omega)) ?_
    rintro _ lo3 w3 hb3 ⟨q3, rfl, hq3⟩
    have hb3 : Below w2.heap.size w2 w3 := hb3
    refine ⟨_, rfl, CIf.f (by simp [hq3]) ?_⟩
    have hb13 := Below.next (Below.next hb1 hb2) hb3
    refine CallF.b (cCond (w := w3) e (hat.below hb13) (hvt.below hb13) (hx.below hb3) (by omega)) (fun _ h => h.elim) ?_
    rintro _ lo4 w4 hm4 _ ⟨a4, n4, c4, q4, rfl, hq4, hN4⟩
    have hb4 : Below w3.heap.size w3 w4 := hm4.below
    rw [hagain] at hq4 hN4
    subst hq4
    refine ⟨_, _, _, _, rfl, CIf.t rfl ?_⟩
    refine CallF.a (cBinds (w := w4) ((hx.below hb3).below hb4) (l' := lx) hN4.sl (by omega)) ?_
    rintro _ lo5 w5 hb5 ⟨q5, rfl, hq5⟩
    exact ⟨_, rfl, CIf.t (by simp [hq5]) (wk _)⟩

end Go.Proofs.Ytfliaomdedfleaa
