import Derived.Test.YtfliaomdedfleaaTsB
/-
  Tests: contracts of the document's own functions.
-/
namespace Go.Proofs.Ytfliaomdedfleaa
open Go.Eng Go.RowKit

theorem stoBelow {w0 w w' : World} {b : Nat} {o : Obj} (h : Below w0.heap.size w0 w) (hs : Sto w w' b o) (hb : w0.heap.size ≤ b) : Below w0.heap.size w0 w' :=
  ⟨hs.os.trans h.os, hs.tape.trans h.tape, hs.output.trans h.output, Nat.le_trans h.size hs.size, fun k hk => (hs.ne k (by omega) (Nat.lt_of_lt_of_le hk h.size)).trans (h.block k hk)⟩

theorem moreTail {w0 : World} {u : UW} {a : Option Addr} {n c b : Nat} {l : List Bind} {x : Bind} {K : Option Addr → Nat → Nat → UW → Prop} (hb : Below w0.heap.size w0 u.toWorld) (ho : Own u a n c 4 (l.map Bind.cells)) (hge : ∀ b o, a = some ⟨b, o, none⟩ → w0.heap.size ≤ b)
    (hx : SlC u.heap (some ⟨b, 0, none⟩) 1 1 4 ([x].map Bind.cells)) (hn : n ≤ 1000000)
    (hk : ∀ a' n' c' u', Below w0.heap.size w0 u'.toWorld → SlC u'.heap a' n' c' 4 ((l ++ [x]).map Bind.cells) → K a' n' c' u') : cApp Try.prog 34 a n c (some ⟨b, 0, none⟩) 1 u K := by
  refine cApp_own tiBind rfl ho.sl hx.toSlR (by omega) (by omega) (by omega) oneBind (fun hr => ?_) ?_ ?_
  · cases a with
    | none => have := ho.nil rfl; omega
    | some ad =>
      obtain ⟨b1, o1, sp⟩ := ad
      have : sp = none := ho.sl.spot _ rfl
      subst this
      obtain ⟨hp, C, T, h1, h2⟩ := ho.own b1 o1 rfl
      exact ⟨b1, o1, C, T, rfl, hp, h1, h2⟩
  · intro b1 o1 C T w' _ e _ hst ho'
    have := ho'.sl
    rw [← List.map_append] at this
    exact hk _ _ _ _ (stoBelow hb hst (hge b1 o1 e)) this
  · intro c' b1 w' C _ hb' _ _ _ ho'
    have := ho'.sl
    rw [← List.map_append] at this
    exact hk _ _ _ _ (Below.next hb hb') this

theorem cMore {w : World} {a : Option Addr} {n c : Nat} {l : List Bind} (v : ByteArray) (s : Sym) (hl : SlC w.heap a n c 4 (l.map Bind.cells)) (hn : n ≤ 1000000) : FnA Try.prog 29 #[.slice a n c, .string v, .agg #[.int .i64 s.k, .string s.t, .int .i64 s.n]] w fun r w' => ∃ a' n' c', r = .slice a' n' c' ∧ SlC w'.heap a' n' c' 4 ((l ++ [Eng.Bind.mk v s]).map Bind.cells) := by
  refine G_ponderref09_more.a _ _ _ _ _ _ _ _ _ ⟨?_, ?_⟩
  · refine cApp_copy tiBind rfl hl.toSlR (by omega) (by omega) oneBind (fun h0 => ?_) (fun c' b w' C _ hb hge _ _ ho => ?_)
    · have : l = [] := List.eq_nil_of_length_eq_zero (by rw [hl.length, h0])
      subst this
      refine ⟨Below.refl _ _, fun b w2 hB => ⟨hB.below, ?_⟩⟩
      exact moreTail (l := []) (x := ⟨v, s⟩) hB.below (Own.nilsl _ _) (fun _ _ h => by cases h) (SlC.one hB.at_) (by omega) fun a' n' c' u' h1 h2 => ⟨h1, _, _, _, rfl, h2⟩
    · refine ⟨hb, fun b2 w2 hB => ?_⟩
      have hbel : Below w.heap.size w w2 := Below.next hb hB.below
      refine ⟨hbel, ?_⟩
      exact moreTail (x := ⟨v, s⟩) hbel (Own.below ho hB.below fun b h => .inl h) (fun b1 o1 e => by cases e; exact hge) (SlC.one hB.at_) (by omega) fun a' n' c' u' h1 h2 => ⟨h1, _, _, _, rfl, h2⟩
  · intro b2 w2 hB
    refine ⟨hB.below, ?_⟩
    have hx : SlC w2.heap (some ⟨b2, 0, none⟩) 1 1 4 ([(⟨v, s⟩ : Bind)].map Bind.cells) := SlC.one hB.at_
    refine cApp_copy tiBind rfl (SlR.below (w := w) hl.toSlR hB.below) (by omega) (by omega) oneBind (fun h0 => ?_) (fun c' b w' C _ hb hge _ _ ho => ?_)
    · have : l = [] := List.eq_nil_of_length_eq_zero (by rw [hl.length, h0])
      subst this
      refine ⟨hB.below, ?_⟩
      exact moreTail (l := []) hB.below (Own.nilsl _ _) (fun _ _ h => by cases h) hx (by omega) fun a' n' c' u' h1 h2 => ⟨h1, _, _, _, rfl, h2⟩
    · have hbel : Below w.heap.size w w' := Below.next hB.below hb
      refine ⟨hbel, ?_⟩
      exact moreTail hbel ho (fun b1 o1 e => by cases e; exact Nat.le_trans hB.below.size hge) (SlC.below (w := w2) hx hb) (by omega) fun a' n' c' u' h1 h2 => ⟨h1, _, _, _, rfl, h2⟩

theorem cRefOne {w : World} {t : Test} {ls : List Sym} (s : Sym) {a : Option Addr} {n c : Nat} {l : List Bind} (ht : TestIn w.heap t ls) (hl : SlC w.heap a n c 4 (l.map Bind.cells)) (hn : n ≤ 1000000) :
    FnA Try.prog 15 #[.agg #[.int .i64 t.rel, .string t.var, .int .i64 t.sym.k, .string t.sym.t, .int .i64 t.sym.n, .slice t.la t.ln t.lc], .agg #[.int .i64 s.k, .string s.t, .int .i64 s.n], .slice a n c] w fun v w' => AnsR w'.heap v (met t ls s l) := by
  refine G_ponderref09_One.a _ _ _ _ _ _ _ _ _ _ _ _ _ _ _ _ ?_
  refine CIf.mk (fun h8 => ?_) (fun h8 => ?_)
  · have h8 : t.rel = 8 := by simpa using h8
    have hm : met t ls s l = if ls.any (fun x => symEq x s) = true then some l else none := by rw [met, if_pos h8]
    rw [hm]
    have hll := ht.list.length
    have := ht.len
    refine LoopI.up t.ln (by omega) (fun k u => u = ⟨w, fun _ => False⟩ ∧ (ls.take k).any (fun x => symEq x s) = false) ⟨rfl, by simp⟩ ?_
    rintro k u next hk ⟨rfl, hg⟩ hnext
    refine CIf.mk (fun h => ?_) (fun h => ?_)
    · have hlt : k < t.ln := by simpa using h
      obtain ⟨b, o, hkl, e, hr⟩ := ht.list.get hlt
      rw [e]
      refine withSl_some ⟨by omega, by omega, _, _, _, hr, CIf.mk (fun he => ?_) (fun he => ?_)⟩
      · rw [anyHit (p := fun x => symEq x s) hkl he]; exact AnsR.some hl
      · exact hnext hlt _ ⟨rfl, by rw [anyTake hkl hg]; exact he⟩
    · have : k = t.ln := by simp at h; omega
      subst this
      rw [← hll, List.take_length] at hg
      rw [hg]; exact AnsR.none _
  · have h8 : ¬ t.rel = 8 := by simpa using h8
    refine CIf.mk (fun h1 => ?_) (fun h1 => ?_)
    · have h1 : t.rel < 1 := by simpa using h1
      rw [met, if_neg h8, if_pos (.inl h1)]; exact AnsR.none _
    · refine CIf.mk (fun h7 => ?_) (fun h7 => ?_)
      · have h7 : t.rel > 7 := by simpa using h7
        rw [met, if_neg h8, if_pos (.inr h7)]; exact AnsR.none _
      · have hr : ¬ (t.rel < 1 ∨ t.rel > 7) := by simp at h1 h7; omega
        have hM : met t ls s l = if t.var = ⟨#[]⟩ then (if holds t.rel s t.sym = true then some l else none) else match getB l t.var with
          | some x => if holds t.rel s x = true then some l else none
          | none => if t.rel = 1 then some (l ++ [⟨t.var, s⟩]) else none := by rw [met, if_neg h8, if_neg hr]; rfl
        refine ⟨fun x u => Below w.heap.size w u.toWorld ∧ met t ls s l = if holds t.rel s ⟨x.1, x.2.1, x.2.2⟩ = true then some l else none, ?_, ?_⟩
        · refine CIf.mk (fun hv => ?_) (fun hv => ?_)
          · rw [if_neg (fun e => by rw [strEq_iff.2 e] at hv; cases hv)] at hM
            refine CallF.a (cRefGet hl hn t.var) ?_
            rintro v lo w' hb rfl
            cases hg : getB l t.var with
            | some x =>
              rw [hg] at hM
              exact ⟨_, _, _, _, rfl, CIf.f rfl ⟨hb, hM⟩⟩
            | none =>
              rw [hg] at hM
              refine ⟨_, _, _, _, rfl, CIf.t rfl ?_⟩
              refine CIf.mk (fun h1 => ?_) (fun h1 => ?_)
              · have h1 : ¬ t.rel = 1 := by simpa using h1
                rw [hM]
                simp only [h1, if_false]; exact AnsR.none _
              · have h1 : t.rel = 1 := by simpa using h1
                rw [hM]
                simp only [h1, if_true]
                refine CallF.a (cMore t.var s (hl.below hb) hn) ?_
                rintro v lo w' hb ⟨a', n', c', rfl, hs⟩
                exact ⟨_, _, _, rfl, AnsR.some hs⟩
          · have hv : t.var = ⟨#[]⟩ := strEq_iff.1 (by simpa using hv)
            exact ⟨Below.refl _ _, by rw [hM, if_pos hv]⟩
        · rintro ⟨x1, x2, x3⟩ u ⟨hb, he⟩
          refine CallF.a (cRefHolds _ t.rel s ⟨x1, x2, x3⟩) ?_
          rintro v lo w' hb2 rfl
          refine ⟨_, rfl, CIf.mk (fun h => ?_) (fun h => ?_)⟩
          · rw [he, if_neg (by simpa using h)]; exact AnsR.none _
          · rw [he, if_pos (by simpa using h)]; exact AnsR.some ((hl.below hb).below hb2)

theorem cTests {w : World} {a0 : Option Addr} {n0 c0 : Nat} {ts : List (Test × List Sym)} (s : Sym) {a : Option Addr} {n c : Nat} {l : List Bind} (ht : TestsIn w.heap a0 n0 c0 ts) (hl : SlC w.heap a n c 4 (l.map Bind.cells)) (hn : n + n0 ≤ 1000000) :
    FnA Try.prog 33 #[.slice a0 n0 c0, .agg #[.int .i64 s.k, .string s.t, .int .i64 s.n], .slice a n c] w fun v w' => AnsR w'.heap v (allT ts s l) := by
  refine G_ponderref09_tests.a _ _ _ _ _ _ _ _ _ _ _ ?_
  have htl := ht.sl.length
  have hll := hl.length
  refine LoopI.up2 n0 (by omega) (fun k x u => Below w.heap.size w u.toWorld ∧ ∃ lk, allT (ts.take k) s l = some lk ∧ SlC u.heap x.1 x.2.1 x.2.2 4 (lk.map Bind.cells)) ⟨Below.refl _ _, l, rfl, hl⟩ ?_
  rintro k ⟨xa, xn, xc⟩ u next hk ⟨hb, lk, hlk, hs⟩ hnext
  have hkb := allT_len hlk
  rw [List.length_take] at hkb
  have hsl := hs.length
  simp only at hsl hs
  refine CIf.mk (fun h => ?_) (fun h => ?_)
  · have hlt : k < n0 := by simpa using h
    obtain ⟨b, o, hkl, rfl, hr⟩ := (ht.below hb).sl.get hlt
    have htk := (ht.below hb).each _ (List.getElem_mem hkl)
    refine withSl_some ⟨by omega, by omega, _, _, _, _, _, _, _, _, hr, ?_⟩
    refine CallF.a (cRefOne (a := xa) (n := xn) (c := xc) s htk hs (by omega)) ?_
    rintro v lo w' hb' ⟨a', n', c', q, rfl, hq, hs'⟩
    refine ⟨_, _, _, _, rfl, hb', CIf.mk (fun h => ?_) (fun h => ?_)⟩
    · have : allT (ts.take (k + 1)) s l = none := by
        rw [allT_take hkl hlk]
        cases hm : met ts[k].1 ts[k].2 s lk with
        | none => rfl
        | some l' => rw [hm] at hq; subst hq; cases h
      rw [allT_fail _ this]; exact AnsR.none _
    · cases hm : met ts[k].1 ts[k].2 s lk with
      | none => rw [hm] at hq; subst hq; cases h
      | some l' => exact hnext hlt (a', n', c') _ ⟨Below.next hb hb', l', by rw [allT_take hkl hlk, hm], by rw [hm] at hs'; exact hs'⟩
  · have : k = n0 := by simp at h; omega
    subst this
    rw [← htl, List.take_length] at hlk
    rw [hlk]
    exact AnsR.some hs

theorem cRefCond {w : World} {cd : CondD} {ats vts : List (Test × List Sym)} (e : Elem) {a : Option Addr} {n c : Nat} {l : List Bind} (hat : TestsIn w.heap cd.aa cd.an cd.ac ats) (hvt : TestsIn w.heap cd.va cd.vn cd.vc vts) (hl : SlC w.heap a n c 4 (l.map Bind.cells)) (hn : n + 1 + cd.an + cd.vn ≤ 1000000) :
    FnA Try.prog 21 #[.agg #[.int .i64 cd.kind, .bool cd.goal, .string cd.id, .slice cd.aa cd.an cd.ac, .slice cd.va cd.vn cd.vc, .bool cd.acc, .slice cd.ca cd.cn cd.cc], .agg #[.int .i64 e.id.k, .string e.id.t, .int .i64 e.id.n, .int .i64 e.attr.k, .string e.attr.t, .int .i64 e.attr.n, .int .i64 e.value.k, .string e.value.t, .int .i64 e.value.n, .bool e.acc, .bool e.goal, .int .i64 e.tag], .slice a n c] w fun v w' => AnsR w'.heap v (condS cd ats vts e l) := by
  refine G_ponderref09_Cond.a _ _ _ _ _ _ _ _ _ _ _ _ _ _ _ _ _ _ _ _ _ _ _ _ _ _ _ _ _ _ ?_
  refine ⟨fun _ u => u = ⟨w, fun _ => False⟩ ∧ ((cd.kind = 1 ∨ cd.kind = 2) ∧ (cd.goal = true → e.goal = true) ∧ cd.acc = e.acc), ?_, ?_⟩
  · repeat' (refine CIf.mk (fun h => ?_) (fun h => ?_))
    all_goals first
      | (refine ⟨rfl, ?_⟩; simp_all; done)
      | (rw [condS, if_neg (by simp_all)]; exact AnsR.none _)
  · rintro _ u ⟨rfl, hc⟩
    have hll := hl.length
    rw [condS, if_pos hc]
    refine CallF.a (cRefOne (t := idTest cd.id) e.id (idIn _ _) hl (by omega)) ?_
    rintro v lo w' hb ⟨a', n', c', q, rfl, hq, hs⟩
    cases hm : met (idTest cd.id) [] e.id l with
    | none =>
      rw [hm] at hq; subst hq
      exact ⟨_, _, _, _, rfl, CIf.t rfl (AnsR.none _)⟩
    | some l1 =>
      rw [hm] at hq hs; subst hq
      have h1 := met_len hm
      have h1' := hs.length
      simp only [Option.getD_some] at h1'
      refine ⟨_, _, _, _, rfl, CIf.f rfl ?_⟩
      refine CallF.a (cTests (l := l1) e.attr (hat.below hb) hs (by omega)) ?_
      rintro v lo w2 hb2 ⟨a2, n2, c2, q, rfl, hq, hs2⟩
      simp only [Option.bind_some]
      cases hm2 : allT ats e.attr l1 with
      | none =>
        rw [hm2] at hq; subst hq
        exact ⟨_, _, _, _, rfl, CIf.t rfl (AnsR.none _)⟩
      | some l2 =>
        rw [hm2] at hq hs2; subst hq
        have h2 := allT_len hm2
        have h2' := hs2.length
        simp only [Option.getD_some] at h2'
        have hal := hat.sl.length
        refine ⟨_, _, _, _, rfl, CIf.f rfl ?_⟩
        refine CallF.a (cTests (l := l2) e.value ((hvt.below hb).below hb2) hs2 (by omega)) ?_
        rintro v lo w3 hb3 ⟨a3, n3, c3, q, rfl, hq, hs3⟩
        exact ⟨_, _, _, _, rfl, _, _, _, _, rfl, hq, hs3⟩

end Go.Proofs.Ytfliaomdedfleaa
