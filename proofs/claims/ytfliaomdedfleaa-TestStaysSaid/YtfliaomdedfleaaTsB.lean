import Derived.Test.YtfliaomdedfleaaTsA
/-
  Tests: contracts of met, all, One, Cond, and of the document's own.
-/
namespace Go.Proofs.Ytfliaomdedfleaa
open Go.Eng Go.RowKit

/-- Bindings, if there are any, as a function hands them back. -/
def Ans (H : Heap) (v : Value) (o : Option (List Bind)) : Prop := ∃ a n c q, v = .tuple #[.slice a n c, .bool q] ∧ q = o.isSome ∧ ∀ l, o = some l → SlC H a n c 4 (l.map Bind.cells)

/-- The same in new memory; nothing, where there are none. -/
def AnsN (lo : Nat) (H : Heap) (v : Value) (o : Option (List Bind)) : Prop := ∃ a n c q, v = .tuple #[.slice a n c, .bool q] ∧ q = o.isSome ∧ NewSl lo H a n c 4 ((o.getD []).map Bind.cells)

theorem Ans.some {H : Heap} {a : Option Addr} {n c : Nat} {l : List Bind} (h : SlC H a n c 4 (l.map Bind.cells)) : Ans H (.tuple #[.slice a n c, .bool true]) (some l) := ⟨a, n, c, true, rfl, rfl, fun l' e => by cases e; exact h⟩

theorem Ans.none (H : Heap) {a : Option Addr} {n c : Nat} : Ans H (.tuple #[.slice a n c, .bool false]) none := ⟨a, n, c, false, rfl, rfl, fun l' e => by cases e⟩

theorem Ans.ite {H : Heap} {a : Option Addr} {n c : Nat} {l : List Bind} {q : Bool} (h : SlC H a n c 4 (l.map Bind.cells)) : Ans H (.tuple #[.slice a n c, .bool q]) (if q = true then Option.some l else Option.none) := by
  cases q
  · exact Ans.none H
  · exact Ans.some h

theorem anyTake {α : Type} {p : α → Bool} {l : List α} {k : Nat} (hk : k < l.length) (h : (l.take k).any p = false) : (l.take (k + 1)).any p = p l[k] := by
  rw [List.take_add_one, List.any_append, h, List.getElem?_eq_getElem hk]; simp

theorem anyHit {α : Type} {p : α → Bool} {l : List α} {k : Nat} (hk : k < l.length) (h : p l[k] = true) : l.any p = true := List.any_eq_true.2 ⟨_, List.getElem_mem hk, h⟩

theorem cMet {w : World} {t : Test} {ls : List Sym} (s : Sym) {a : Option Addr} {n c : Nat} {l : List Bind} (ht : TestIn w.heap t ls) (hl : SlC w.heap a n c 4 (l.map Bind.cells)) (hn : n ≤ 1000000) :
    FnA Try.prog 27 #[.agg #[.int .i64 t.rel, .string t.var, .int .i64 t.sym.k, .string t.sym.t, .int .i64 t.sym.n, .slice t.la t.ln t.lc], .agg #[.int .i64 s.k, .string s.t, .int .i64 s.n], .slice a n c] w fun v w' => Ans w'.heap v (met t ls s l) := by
  refine G_test_met.a _ _ _ _ _ _ _ _ _ _ _ _ _ _ _ _ ?_
  refine CIf.mk (fun h8 => ?_) (fun h8 => ?_)
  · have h8 : t.rel = 8 := by simpa using h8
    have hm : met t ls s l = if ls.any (fun x => symEq x s) = true then some l else none := by rw [met, if_pos h8]
    rw [hm]
    have hll := ht.list.length
    have := ht.len
    refine LoopI.up t.ln (by omega) (fun k u => u = ⟨w, fun _ => False⟩ ∧ (ls.take k).any (fun x => symEq x s) = false) ⟨rfl, by simp⟩ ?_
    rintro k u next hk ⟨rfl, hg⟩ hnext
    refine CIf.mk (fun h => ?_) (fun h => ?_)
    · have hlt : k < t.ln := by simpa using h
      obtain ⟨b, o, hkl, e, hr⟩ := ht.list.get hlt
      rw [e]
      refine withSl_some ⟨by omega, by omega, _, _, _, hr, CIf.mk (fun he => ?_) (fun he => ?_)⟩
      · rw [anyHit (p := fun x => symEq x s) hkl he]; exact Ans.some hl
      · exact hnext hlt _ ⟨rfl, by rw [anyTake hkl hg]; exact he⟩
    · have : k = t.ln := by simp at h; omega
      subst this
      rw [← hll, List.take_length] at hg
      rw [hg]; exact Ans.none _
  · have h8 : ¬ t.rel = 8 := by simpa using h8
    refine CIf.mk (fun h1 => ?_) (fun h1 => ?_)
    · have h1 : t.rel < 1 := by simpa using h1
      rw [met, if_neg h8, if_pos (.inl h1)]; exact Ans.none _
    · refine CIf.mk (fun h7 => ?_) (fun h7 => ?_)
      · have h7 : t.rel > 7 := by simpa using h7
        rw [met, if_neg h8, if_pos (.inr h7)]; exact Ans.none _
      · have hr : ¬ (t.rel < 1 ∨ t.rel > 7) := by simp at h1 h7; omega
        rw [met, if_neg h8, if_neg hr]
        refine CIf.mk (fun hv => ?_) (fun hv => ?_)
        · rw [if_pos (strEq_iff.1 hv)]
          refine CallF.a (cHolds _ t.rel s t.sym) ?_
          rintro v lo w' hb rfl
          exact ⟨_, rfl, Ans.ite (hl.below hb)⟩
        · rw [if_neg (fun e => by rw [strEq_iff.2 e] at hv; cases hv)]
          refine CallF.a (cGet hl hn t.var) ?_
          rintro v lo w' hb rfl
          cases hg : getB l t.var with
          | some x =>
            refine ⟨_, _, _, _, rfl, CIf.t rfl ?_⟩
            refine CallF.a (cHolds _ t.rel s x) ?_
            rintro v lo w2 hb2 rfl
            exact ⟨_, rfl, Ans.ite ((hl.below hb).below hb2)⟩
          | none =>
            refine ⟨_, _, _, _, rfl, CIf.f rfl ?_⟩
            refine CIf.mk (fun h1 => ?_) (fun h1 => ?_)
            · have h1 : ¬ t.rel = 1 := by simpa using h1
              simp only [h1, if_false]; exact Ans.none _
            · have h1 : t.rel = 1 := by simpa using h1
              simp only [h1, if_true]
              have hl2 := hl.below hb
              have hcap := hl.cap
              refine ⟨hl.spot, by omega, by omega, by omega, by omega, fun b w2 hB => ⟨hB.below, ?_⟩⟩
              have hx : SlC w2.heap (some ⟨b, 0, none⟩) 1 1 4 ([(⟨t.var, s⟩ : Bind)].map Bind.cells) := SlC.one hB.at_
              have hl3 := SlC.below (w := w') hl2 hB.below
              have hl4 : SlC w2.heap a n n 4 (l.map Bind.cells) := ⟨⟨hl3.len, Nat.le_refl _, hl3.each, hl3.read⟩, hl3.spot⟩
              simp only [Int.toNat_zero, Int.toNat_natCast, Nat.sub_zero, slA_zero hl.spot]
              refine cApp_own tiBind rfl hl4 hx.toSlR (by omega) (by omega) (by omega) oneBind (fun h => by omega) (fun _ _ _ _ _ h => by omega) ?_
              intro c' b' w3 C _ hb3 _ _ _ ho
              refine ⟨Below.next hB.below hb3, ?_⟩
              have := ho.sl
              rw [← List.map_append] at this
              exact Ans.some this

/-- As Ans, and nothing where there is none. -/
def AnsR (H : Heap) (v : Value) (o : Option (List Bind)) : Prop := ∃ a n c q, v = .tuple #[.slice a n c, .bool q] ∧ q = o.isSome ∧ SlC H a n c 4 ((o.getD []).map Bind.cells)

def AnsO (u : UW) (v : Value) (o : Option (List Bind)) : Prop := ∃ a n c q, v = .tuple #[.slice a n c, .bool q] ∧ q = o.isSome ∧ Own u a n c 4 ((o.getD []).map Bind.cells)

theorem AnsR.none (H : Heap) : AnsR H (.tuple #[.slice none 0 0, .bool false]) none := ⟨_, _, _, _, rfl, rfl, SlC.nil _ _⟩
theorem AnsR.some {H : Heap} {a : Option Addr} {n c : Nat} {l : List Bind} (h : SlC H a n c 4 (l.map Bind.cells)) : AnsR H (.tuple #[.slice a n c, .bool true]) (some l) := ⟨_, _, _, _, rfl, rfl, h⟩
theorem AnsO.none (u : UW) : AnsO u (.tuple #[.slice none 0 0, .bool false]) none := ⟨_, _, _, _, rfl, rfl, Own.nilsl _ _⟩
theorem AnsO.some {u : UW} {a : Option Addr} {n c : Nat} {l : List Bind} (h : Own u a n c 4 (l.map Bind.cells)) : AnsO u (.tuple #[.slice a n c, .bool true]) (some l) := ⟨_, _, _, _, rfl, rfl, h⟩

theorem AnsN.of {lo : Nat} {w : World} {pub : Nat → Prop} {v : Value} {o : Option (List Bind)} (hp : ∀ b, pub b → False ∨ lo ≤ b) (h : AnsO ⟨w, pub⟩ v o) : AnsN lo w.heap v o := by
  obtain ⟨a, n, c, q, h1, h2, h3⟩ := h
  exact ⟨a, n, c, q, h1, h2, NewSl.of hp h3⟩

theorem cAll {w : World} {a0 : Option Addr} {n0 c0 : Nat} {ts : List (Test × List Sym)} (s : Sym) {a : Option Addr} {n c : Nat} {l : List Bind} (ht : TestsIn w.heap a0 n0 c0 ts) (hl : SlC w.heap a n c 4 (l.map Bind.cells)) (hn : n + n0 ≤ 1000000) :
    FnA Try.prog 32 #[.slice a0 n0 c0, .agg #[.int .i64 s.k, .string s.t, .int .i64 s.n], .slice a n c] w fun v w' => Ans w'.heap v (allT ts s l) := by
  refine G_test_all.a _ _ _ _ _ _ _ _ _ _ _ ?_
  have htl := ht.sl.length
  have hll := hl.length
  refine LoopI.up2 n0 (by omega) (fun k x u => Below w.heap.size w u.toWorld ∧ ∃ lk, allT (ts.take k) s l = some lk ∧ SlC u.heap x.1 x.2.1 x.2.2 4 (lk.map Bind.cells)) ⟨Below.refl _ _, l, rfl, hl⟩ ?_
  rintro k ⟨xa, xn, xc⟩ u next hk ⟨hb, lk, hlk, hs⟩ hnext
  have hkb := allT_len hlk
  rw [List.length_take] at hkb
  have hsl := hs.length
  simp only at hsl hs
  refine CIf.mk (fun h => ?_) (fun h => ?_)
  · have hlt : k < n0 := by simpa using h
    obtain ⟨b, o, hkl, rfl, hr⟩ := (ht.below hb).sl.get hlt
    have htk := (ht.below hb).each _ (List.getElem_mem hkl)
    refine withSl_some ⟨by omega, by omega, _, _, _, _, _, _, _, _, hr, ?_⟩
    refine CallF.a (cMet (a := xa) (n := xn) (c := xc) s htk hs (by omega)) ?_
    rintro v lo w' hb' ⟨a', n', c', q, rfl, hq, hs'⟩
    refine ⟨_, _, _, _, rfl, CIf.mk (fun h => ?_) (fun h => ?_)⟩
    · have : allT (ts.take (k + 1)) s l = none := by
        rw [allT_take hkl hlk]
        cases hm : met ts[k].1 ts[k].2 s lk with
        | none => rfl
        | some l' => rw [hm] at hq; subst hq; cases h
      rw [allT_fail _ this]; exact Ans.none _
    · cases hm : met ts[k].1 ts[k].2 s lk with
      | none => rw [hm] at hq; subst hq; cases h
      | some l' => exact hnext hlt (a', n', c') _ ⟨Below.next hb hb', l', by rw [allT_take hkl hlk, hm], hs' l' hm⟩
  · have : k = n0 := by simp at h; omega
    subst this
    rw [← htl, List.take_length] at hlk
    rw [hlk]
    exact Ans.some hs

theorem cOne {w : World} {t : Test} {ls : List Sym} (s : Sym) {a : Option Addr} {n c : Nat} {l : List Bind} (ht : TestIn w.heap t ls) (hl : SlC w.heap a n c 4 (l.map Bind.cells)) (hn : n + 1 ≤ 1000000) :
    FnB Try.prog 14 #[.agg #[.int .i64 t.rel, .string t.var, .int .i64 t.sym.k, .string t.sym.t, .int .i64 t.sym.n, .slice t.la t.ln t.lc], .agg #[.int .i64 s.k, .string s.t, .int .i64 s.n], .slice a n c] w (fun _ => False) fun v lo w' => AnsN lo w'.heap v (met t ls s l) := by
  refine (G_test_One.fn _ _ _ _ _ _ _ _ _ _ _ _ _ _ w (fun _ => False) (fun v u => AnsO u v (met t ls s l)) (fun _ h => h.elim) ?_).mono ?_
  · refine CallF.a (cMet s ht hl (by omega)) ?_
    rintro v lo w' hb ⟨a', n', c', q, rfl, hq, hs⟩
    have hll := hl.length
    refine ⟨_, _, _, _, rfl, CIf.mk (fun h => ?_) (fun h => ?_)⟩
    · cases hm : met t ls s l with
      | none => exact AnsO.none _
      | some l' => rw [hm] at hq; subst hq; cases h
    · cases hm : met t ls s l with
      | none => rw [hm] at hq; subst hq; cases h
      | some l' =>
        have h1 := met_len hm
        have h2 := (hs l' hm).length
        refine CallF.b (cOwn (hs l' hm) (by omega)) (fun _ h => h.elim) ?_
        rintro v lo2 w2 _ _ ⟨a2, n2, c2, rfl, hN⟩
        exact ⟨_, _, _, rfl, AnsO.some hN.ret⟩
  · rintro v lo w' _ _ ⟨pub, hp, ho⟩
    exact AnsN.of hp ho

theorem idIn (H : Heap) (v : ByteArray) : TestIn H (idTest v) [] := ⟨SlR.nil _ _, by simp⟩

theorem cCond {w : World} {cd : CondD} {ats vts : List (Test × List Sym)} (e : Elem) {a : Option Addr} {n c : Nat} {l : List Bind} (hat : TestsIn w.heap cd.aa cd.an cd.ac ats) (hvt : TestsIn w.heap cd.va cd.vn cd.vc vts) (hl : SlC w.heap a n c 4 (l.map Bind.cells)) (hn : n + 1 + cd.an + cd.vn ≤ 1000000) :
    FnB Try.prog 20 #[.agg #[.int .i64 cd.kind, .bool cd.goal, .string cd.id, .slice cd.aa cd.an cd.ac, .slice cd.va cd.vn cd.vc, .bool cd.acc, .slice cd.ca cd.cn cd.cc], .agg #[.int .i64 e.id.k, .string e.id.t, .int .i64 e.id.n, .int .i64 e.attr.k, .string e.attr.t, .int .i64 e.attr.n, .int .i64 e.value.k, .string e.value.t, .int .i64 e.value.n, .bool e.acc, .bool e.goal, .int .i64 e.tag], .slice a n c] w (fun _ => False) fun v lo w' => AnsN lo w'.heap v (condS cd ats vts e l) := by
  refine (G_test_Cond.fn _ _ _ _ _ _ _ _ _ _ _ _ _ _ _ _ _ _ _ _ _ _ _ _ _ _ _ _ w (fun _ => False) (fun v u => AnsO u v (condS cd ats vts e l)) (fun _ h => h.elim) ?_).mono ?_
  · refine ⟨fun _ u => u = ⟨w, fun _ => False⟩ ∧ ((cd.kind = 1 ∨ cd.kind = 2) ∧ (cd.goal = true → e.goal = true) ∧ cd.acc = e.acc), ?_, ?_⟩
    · repeat' (refine CIf.mk (fun h => ?_) (fun h => ?_))
      all_goals first
        | (refine ⟨rfl, ?_⟩; simp_all; done)
        | (rw [condS, if_neg (by simp_all)]; exact AnsO.none _)
    · rintro _ u ⟨rfl, hc⟩
      have hll := hl.length
      rw [condS, if_pos hc]
      refine CallF.a (cMet (t := idTest cd.id) e.id (idIn _ _) hl (by omega)) ?_
      rintro v lo w' hb ⟨a', n', c', q, rfl, hq, hs⟩
      cases hm : met (idTest cd.id) [] e.id l with
      | none =>
        rw [hm] at hq; subst hq
        exact ⟨_, _, _, _, rfl, CIf.t rfl (AnsO.none _)⟩
      | some l1 =>
        rw [hm] at hq; subst hq
        have hs := hs l1 hm
        have h1 := met_len hm
        have h1' := hs.length
        refine ⟨_, _, _, _, rfl, CIf.f rfl ?_⟩
        refine CallF.a (cAll e.attr (hat.below hb) hs (by omega)) ?_
        rintro v lo w2 hb2 ⟨a2, n2, c2, q, rfl, hq, hs2⟩
        simp only [Option.bind_some]
        cases hm2 : allT ats e.attr l1 with
        | none =>
          rw [hm2] at hq; subst hq
          exact ⟨_, _, _, _, rfl, CIf.t rfl (AnsO.none _)⟩
        | some l2 =>
          rw [hm2] at hq; subst hq
          have hs2 := hs2 l2 hm2
          have h2 := allT_len hm2
          have h2' := hs2.length
          have hal := hat.sl.length
          refine ⟨_, _, _, _, rfl, CIf.f rfl ?_⟩
          refine CallF.a (cAll e.value ((hvt.below hb).below hb2) hs2 (by omega)) ?_
          rintro v lo w3 hb3 ⟨a3, n3, c3, q, rfl, hq, hs3⟩
          simp only [Option.bind_some]
          cases hm3 : allT vts e.value l2 with
          | none =>
            rw [hm3] at hq; subst hq
            exact ⟨_, _, _, _, rfl, CIf.t rfl (AnsO.none _)⟩
          | some l3 =>
            rw [hm3] at hq; subst hq
            have hs3 := hs3 l3 hm3
            have h3 := allT_len hm3
            have h3' := hs3.length
            have hvl := hvt.sl.length
            refine ⟨_, _, _, _, rfl, CIf.f rfl ?_⟩
            refine CallF.b (cOwn hs3 (by omega)) (fun _ h => h.elim) ?_
            rintro v lo4 w4 _ _ ⟨a4, n4, c4, rfl, hN⟩
            exact ⟨_, _, _, rfl, AnsO.some hN.ret⟩
  · rintro v lo w' _ _ ⟨pub, hp, ho⟩
    exact AnsN.of hp ho

end Go.Proofs.Ytfliaomdedfleaa
