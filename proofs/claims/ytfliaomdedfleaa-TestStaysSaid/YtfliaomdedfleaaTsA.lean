import Derived.Test.YtfliaomdedfleaaT1
import Derived.Test.YtfliaomdedfleaaDomA
/-
  Tests: contracts of the small functions.
-/
namespace Go.Proofs.Ytfliaomdedfleaa
open Go.Eng Go.RowKit

theorem cHolds (w : World) (rel : Int) (a b : Sym) : FnA Try.prog 9 #[.int .i64 rel, .agg #[.int .i64 a.k, .string a.t, .int .i64 a.n], .agg #[.int .i64 b.k, .string b.t, .int .i64 b.n]] w fun v _ => v = .bool (holds rel a b) := by
  refine G_test_Holds.a _ _ _ _ _ _ _ _ _ ?_
  refine ⟨fun s u => s = (a.k == 2 && b.k == 2), ?_, ?_⟩
  · exact CIf.mk (fun h => by simp [h]) (fun h => by simp [h])
  · rintro s u rfl
    repeat' (refine CIf.mk (fun h => ?_) (fun h => ?_))
    all_goals simp_all [holds, symEq]

theorem cRefHolds (w : World) (rel : Int) (a b : Sym) : FnA Try.prog 10 #[.int .i64 rel, .agg #[.int .i64 a.k, .string a.t, .int .i64 a.n], .agg #[.int .i64 b.k, .string b.t, .int .i64 b.n]] w fun v _ => v = .bool (holds rel a b) := by
  refine G_ponderref09_Holds.a _ _ _ _ _ _ _ _ _ ?_
  refine ⟨fun s u => s = (a.k == 2 && b.k == 2), ?_, ?_⟩
  · exact CIf.mk (fun h => by simp [h]) (fun h => by simp [h])
  · rintro s u rfl
    repeat' (refine CIf.mk (fun h => ?_) (fun h => ?_))
    all_goals simp_all [holds, symEq]

/-- What Get answers. -/
@[reducible] def getV : Option Sym → Value
  | some s => .tuple #[.agg #[.int .i64 s.k, .string s.t, .int .i64 s.n], .bool true]
  | none => .tuple #[.agg #[.int .i64 0, .string ⟨#[]⟩, .int .i64 0], .bool false]

theorem cGet {w : World} {a : Option Addr} {n c : Nat} {l : List Bind} (hl : SlC w.heap a n c 4 (l.map Bind.cells)) (hn : n ≤ 1000000) (v : ByteArray) : FnA Try.prog 17 #[.slice a n c, .string v] w fun r _ => r = getV (getB l v) := by
  refine G_test_Get.a _ _ _ _ _ _ ?_
  refine LoopI.up n (by omega) (fun k u => u = ⟨w, fun _ => False⟩ ∧ getB (l.take k) v = none) ⟨rfl, by simp [getB]⟩ ?_
  rintro k u next hk ⟨rfl, hg⟩ hnext
  have hlen := hl.length
  refine CIf.mk (fun h => ?_) (fun h => ?_)
  · have hlt : k < n := by simpa using h
    obtain ⟨b, o, hkl, rfl, hr⟩ := hl.get hlt
    refine withSl_some ⟨by omega, by omega, _, _, _, _, hr, CIf.mk (fun he => ?_) (fun he => ?_)⟩
    · rw [getB_hit hkl hg he]
    · exact hnext hlt _ ⟨rfl, by rw [getB_take hkl hg, he]; rfl⟩
  · have : k = n := by simp at h; omega
    subst this
    rw [← hlen, List.take_length] at hg
    rw [hg]

theorem cRefGet {w : World} {a : Option Addr} {n c : Nat} {l : List Bind} (hl : SlC w.heap a n c 4 (l.map Bind.cells)) (hn : n ≤ 1000000) (v : ByteArray) : FnA Try.prog 18 #[.slice a n c, .string v] w fun r _ => r = getV (getB l v) := by
  refine G_ponderref09_Get.a _ _ _ _ _ _ ?_
  refine LoopI.up n (by omega) (fun k u => u = ⟨w, fun _ => False⟩ ∧ getB (l.take k) v = none) ⟨rfl, by simp [getB]⟩ ?_
  rintro k u next hk ⟨rfl, hg⟩ hnext
  have hlen := hl.length
  refine CIf.mk (fun h => ?_) (fun h => ?_)
  · have hlt : k < n := by simpa using h
    obtain ⟨b, o, hkl, rfl, hr⟩ := hl.get hlt
    refine withSl_some ⟨by omega, by omega, _, rd_sub (i := 0) (k := 1) hr (by omega), CIf.mk (fun he => ?_) (fun he => ?_)⟩
    · refine withSl_some ⟨by omega, by omega, _, _, _, rd_sub (i := 1) (k := 3) hr (by omega), ?_⟩
      rw [getB_hit hkl hg he]
    · exact hnext hlt _ ⟨rfl, by rw [getB_take hkl hg, he]; rfl⟩
  · have : k = n := by simp at h; omega
    subst this
    rw [← hlen, List.take_length] at hg
    rw [hg]

theorem tiBind : ti Try.prog 34 4 48 [.string ⟨#[]⟩, .int .i64 0, .string ⟨#[]⟩, .int .i64 0] := by unfold ti; kernel_rfl

theorem oneBind {l : List Bind} : ∀ x ∈ l.map Bind.cells, ∀ v ∈ x, one v = true := by
  intro x hx v hv
  obtain ⟨b, _, rfl⟩ := List.mem_map.1 hx
  simp only [Bind.cells, List.mem_cons, List.not_mem_nil, or_false] at hv
  rcases hv with rfl | rfl | rfl | rfl <;> rfl

/-- A copy in new memory. -/
theorem cOwn {w : World} {a : Option Addr} {n c : Nat} {l : List Bind} (hl : SlC w.heap a n c 4 (l.map Bind.cells)) (hn : n ≤ 1000000) : FnB Try.prog 28 #[.slice a n c] w (fun _ => False) fun r lo w' => ∃ a' n' c', r = .slice a' n' c' ∧ NewSl lo w'.heap a' n' c' 4 (l.map Bind.cells) := by
  refine (G_test_own.fn a n c w (fun _ => False) (fun v u => ∃ a' n' c', v = .slice a' n' c' ∧ Own u a' n' c' 4 (l.map Bind.cells)) (fun _ h => h.elim) ?_).mono ?_
  · refine cApp_copy tiBind rfl hl.toSlR (by omega) (by omega) oneBind (fun h0 => ?_) (fun c b w' C _ _ _ _ _ ho => ⟨_, _, _, rfl, ho⟩)
    have : l = [] := List.eq_nil_of_length_eq_zero (by rw [hl.length, h0])
    subst this
    exact ⟨_, _, _, rfl, Own.nilsl _ _⟩
  · rintro v lo w' _ _ ⟨pub, hp, a', n', c', rfl, ho⟩
    exact ⟨_, _, _, rfl, NewSl.of hp ho⟩

theorem cCopy {w : World} {a : Option Addr} {n c : Nat} {l : List Bind} (hl : SlC w.heap a n c 4 (l.map Bind.cells)) (hn : n ≤ 1000000) : FnB Try.prog 13 #[.slice a n c] w (fun _ => False) fun r lo w' => ∃ a' n' c', r = .slice a' n' c' ∧ NewSl lo w'.heap a' n' c' 4 (l.map Bind.cells) := by
  refine (G_ponderkeep_Copy_api_Bind.fn a n c w (fun _ => False) (fun v u => ∃ a' n' c', v = .slice a' n' c' ∧ Own u a' n' c' 4 (l.map Bind.cells)) (fun _ h => h.elim) ?_).mono ?_
  · refine cApp_copy tiBind rfl hl.toSlR (by omega) (by omega) oneBind (fun h0 => ?_) (fun c b w' C _ _ _ _ _ ho => ⟨_, _, _, rfl, ho⟩)
    have : l = [] := List.eq_nil_of_length_eq_zero (by rw [hl.length, h0])
    subst this
    exact ⟨_, _, _, rfl, Own.nilsl _ _⟩
  · rintro v lo w' _ _ ⟨pub, hp, a', n', c', rfl, ho⟩
    exact ⟨_, _, _, rfl, NewSl.of hp ho⟩

theorem cN (w : World) (n : Int) : FnA Try.prog 12 #[.int .i64 n] w fun v _ => v = .agg #[.int .i64 2, .string ⟨#[]⟩, .int .i64 n] := G_ponderlaw09_N.a _ _ _ rfl
theorem cI (w : World) (s : ByteArray) (n : Int) : FnA Try.prog 25 #[.string s, .int .i64 n] w fun v _ => v = .agg #[.int .i64 1, .string s, .int .i64 n] := G_ponderlaw09_I.a _ _ _ _ rfl
theorem cW (w : World) (s : ByteArray) : FnA Try.prog 26 #[.string s] w fun v _ => v = .agg #[.int .i64 3, .string s, .int .i64 0] := G_ponderlaw09_W.a _ _ _ rfl

/-- Are two lists of bindings one? -/
theorem cBinds {w : World} {a a' : Option Addr} {n c n' c' : Nat} {l l' : List Bind} (hl : SlC w.heap a n c 4 (l.map Bind.cells)) (hl' : SlC w.heap a' n' c' 4 (l'.map Bind.cells)) (hn : n ≤ 1000000) : FnA Try.prog 16 #[.slice a n c, .slice a' n' c'] w fun v _ => ∃ q, v = .bool q ∧ (q = true ↔ l = l') := by
  refine G_ponderkeep_Binds.a _ _ _ _ _ _ _ _ ?_
  have h1 := hl.length
  have h2 := hl'.length
  refine CIf.mk (fun h => ⟨false, rfl, ?_⟩) (fun h => ?_)
  · simp at h
    constructor
    · intro h; cases h
    · rintro rfl; omega
  · simp at h
    have he : n = n' := by omega
    subst he
    refine LoopI.up n (by omega) (fun k u => u = ⟨w, fun _ => False⟩ ∧ l.take k = l'.take k) ⟨rfl, by simp⟩ ?_
    rintro k u next hk ⟨rfl, hg⟩ hnext
    refine CIf.mk (fun h => ?_) (fun h => ?_)
    · have hlt : k < n := by simpa using h
      obtain ⟨b, o, hkl, rfl, hr⟩ := hl.get hlt
      obtain ⟨b', o', hkl', rfl, hr'⟩ := hl'.get hlt
      refine withSl_some ⟨by omega, by omega, _, _, _, _, hr, withSl_some ⟨by omega, by omega, _, _, _, _, hr', CIf.mk (fun he => ⟨false, rfl, ?_⟩) (fun he => ?_)⟩⟩
      · constructor
        · intro h; cases h
        · rintro rfl
          have := bindEq_iff.2 (rfl : l[k] = l[k])
          rw [bindEq] at this
          rw [this] at he; cases he
      · refine hnext hlt _ ⟨rfl, ?_⟩
        have he' : bindEq l[k] l'[k] = true := by simpa using he
        rw [List.take_add_one, List.take_add_one, hg, List.getElem?_eq_getElem hkl, List.getElem?_eq_getElem hkl', bindEq_iff.1 he']
    · have : k = n := by simp at h; omega
      subst this
      refine ⟨true, rfl, fun _ => ?_, fun _ => rfl⟩
      rw [← h1, List.take_length, h1, ← h2, List.take_length] at hg
      exact hg

end Go.Proofs.Ytfliaomdedfleaa
