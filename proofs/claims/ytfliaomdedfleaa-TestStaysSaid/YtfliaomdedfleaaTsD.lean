import Derived.Test.YtfliaomdedfleaaTsC
/-
  Tests: the examples of the document.
-/
namespace Go.Proofs.Ytfliaomdedfleaa
open Go.Eng Go.RowKit

theorem wake1 : met ⟨2, ⟨#[120]⟩, ⟨0, ⟨#[]⟩, 0⟩, none, 0, 0⟩ [] ⟨1, ⟨#[83]⟩, 1⟩ [⟨⟨#[120]⟩, ⟨1, ⟨#[83]⟩, 2⟩⟩] = some [⟨⟨#[120]⟩, ⟨1, ⟨#[83]⟩, 2⟩⟩] := by
  simp [met, getB, holds, symEq, strEq_iff]

@[reducible] def wakeC (b17 b19 : Nat) : CondD := ⟨1, false, ⟨#[115]⟩, some ⟨b17, 0, none⟩, 1, 1, some ⟨b19, 0, none⟩, 1, 1, false, none, 0, 0⟩

theorem wake2 (b17 b19 : Nat) : condS (wakeC b17 b19) [(⟨1, ⟨#[]⟩, ⟨3, ⟨#[120]⟩, 0⟩, none, 0, 0⟩, [])] [(⟨1, ⟨#[115]⟩, ⟨0, ⟨#[]⟩, 0⟩, none, 0, 0⟩, [])] ⟨⟨1, ⟨#[83]⟩, 1⟩, ⟨3, ⟨#[120]⟩, 0⟩, ⟨1, ⟨#[83]⟩, 1⟩, false, false, 0⟩ [] = some [⟨⟨#[115]⟩, ⟨1, ⟨#[83]⟩, 1⟩⟩] := by
  have e (x : ByteArray) : strEq x x = true := strEq_iff.2 rfl
  simp [condS, met, getB, allT, holds, symEq, e]

theorem testsOne {w : World} {b : Nat} {t : Test} {T : TypeId} (h : w.heap[b]? = some (.cells t.cells.toArray T (0, 0))) (ht : TestIn w.heap t []) : TestsIn w.heap (some ⟨b, 0, none⟩) 1 1 [(t, [])] :=
  ⟨(SlC.one h).toSlR, fun p hp => by simp only [List.mem_singleton] at hp; subst hp; exact ht⟩

theorem noList (H : Heap) (r : Int) (v : ByteArray) (s : Sym) : TestIn H ⟨r, v, s, none, 0, 0⟩ [] := ⟨SlR.nil _ _, by simp⟩

theorem cWakes (w : World) : FnA Try.prog 11 #[] w fun v _ => v = .bool true := by
  refine G_ponderlaw09_wakes.a _ _ ?_
  refine CallF.a (cI _ _ _) ?_
  rintro _ lo1 w1 hb1 rfl
  refine ⟨_, _, _, rfl, ?_⟩
  refine CallF.a (cI _ _ _) ?_
  rintro _ lo2 w2 hb2 rfl
  refine ⟨_, _, _, rfl, fun b11 w3 hB3 => ?_⟩
  refine CallF.b (cOne (w := w3) (t := ⟨2, ⟨#[120]⟩, ⟨0, ⟨#[]⟩, 0⟩, none, 0, 0⟩) ⟨1, ⟨#[83]⟩, 1⟩ (l := [⟨⟨#[120]⟩, ⟨1, ⟨#[83]⟩, 2⟩⟩]) (noList _ _ _ _) (SlC.one hB3.at_) (by omega)) (fun _ h => h.elim) ?_
  rintro _ lo4 w4 hm4 _ ⟨a4, n4, c4, q4, rfl, hq4, _⟩
  rw [wake1] at hq4; subst hq4
  refine ⟨_, _, _, _, rfl, ?_⟩
  refine CallF.a (cW _ _) ?_
  rintro _ lo5 w5 hb5 rfl
  refine ⟨_, _, _, rfl, fun b17 w6 hB6 b19 w7 hB7 => ?_⟩
  refine CallF.a (cI _ _ _) ?_
  rintro _ lo8 w8 hb8 rfl
  have hb8 : Below w7.heap.size w7 w8 := hb8
  refine ⟨_, _, _, rfl, hb8, ?_⟩
  refine CallF.a (cW _ _) ?_
  rintro _ lo9 w9 hb9 rfl
  have hb9 : Below w7.heap.size w7 w9 := Below.next hb8 hb9
  refine ⟨_, _, _, rfl, hb9, ?_⟩
  refine CallF.a (cI _ _ _) ?_
  rintro _ lo10 w10 hb10 rfl
  have hb10 : Below w7.heap.size w7 w10 := Below.next hb9 hb10
  refine ⟨_, _, _, rfl, hb10, ?_⟩
  have h17 : TestsIn w10.heap (some ⟨b17, 0, none⟩) 1 1 [(⟨1, ⟨#[]⟩, ⟨3, ⟨#[120]⟩, 0⟩, none, 0, 0⟩, [])] := TestsIn.below (w := w6) (testsOne hB6.at_ (noList _ _ _ _)) (Below.next hB7.below hb10)
  have h19 : TestsIn w10.heap (some ⟨b19, 0, none⟩) 1 1 [(⟨1, ⟨#[115]⟩, ⟨0, ⟨#[]⟩, 0⟩, none, 0, 0⟩, [])] := TestsIn.below (w := w7) (testsOne hB7.at_ (noList _ _ _ _)) hb10
  refine CallF.b (cCond (w := w10) (cd := wakeC b17 b19) ⟨⟨1, ⟨#[83]⟩, 1⟩, ⟨3, ⟨#[120]⟩, 0⟩, ⟨1, ⟨#[83]⟩, 1⟩, false, false, 0⟩ (l := []) h17 h19 (SlC.nil _ _) (by simp)) (fun _ h => h.elim) ?_
  rintro _ lo11 w11 hm11 _ ⟨a11, n11, c11, q11, rfl, hq11, hN⟩
  rw [wake2] at hq11 hN; subst hq11
  refine ⟨_, _, _, _, rfl, Below.next hb10 hm11.below, CIf.t rfl (CIf.t rfl ?_)⟩
  have hn : n11 = 1 := hN.sl.length.symm
  subst hn
  obtain ⟨b, o, _, rfl, hr⟩ := hN.sl.get (k := 0) (by omega)
  refine CIf.t rfl (withSl_some ⟨by omega, by omega, _, _, _, rd_sub (i := 1) (k := 3) hr (by omega), ?_⟩)
  refine CallF.a (cI _ _ _) ?_
  rintro _ lo12 w12 hb12 rfl
  refine ⟨_, _, _, rfl, hb12, ?_⟩
  have e (x : ByteArray) : strEq x x = true := strEq_iff.2 rfl
  simp [e]

/-! ### the laws' functions -/
theorem cTestHolds (w : World) (rel : Int) (_ : (Lit.int .i64 rel).wf = true) (a : Sym) (_ : True) (b : Sym) (_ : True) : FnA Try.prog 3 #[.int .i64 rel, .agg #[.int .i64 a.k, .string a.t, .int .i64 a.n], .agg #[.int .i64 b.k, .string b.t, .int .i64 b.n]] w fun v _ => v = .bool true := by
  refine G_ponderlaw09_TestHolds.a _ _ _ _ _ _ _ _ _ ?_
  refine CallF.a (cHolds _ rel a b) ?_
  rintro _ lo1 w1 hb1 rfl
  refine ⟨_, rfl, hb1, ?_⟩
  refine CallF.a (cRefHolds _ rel a b) ?_
  rintro _ lo2 w2 hb2 rfl
  refine ⟨_, rfl, Below.next hb1 hb2, CIf.t (by simp) ?_⟩
  refine CallF.a (cWakes _) ?_
  rintro _ lo3 w3 hb3 rfl
  exact ⟨_, rfl, Below.next (Below.next hb1 hb2) hb3, rfl⟩

end Go.Proofs.Ytfliaomdedfleaa
