import Derived.Test.YtdiimonfmdbclaaCh12E
/-
  The laws of chapter 12: late ones.
-/
namespace Go.Proofs.Ytdiimonfmdbclaa
open Go.Eng Go.RowKit
set_option linter.unusedVariables false
set_option linter.unusedSimpArgs false
set_option linter.unnecessarySimpa false

theorem AInv.bareEs {es : List Elem} {ms : AMs} (h : AInv es ms) : AInv es [] := ⟨h.ues, List.Pairwise.nil, by simp, by simp, by simp, by simp, by simp, h.le, by simp⟩

theorem cAlphaLate (c : Cond) (es : List Elem) (_ : (∀ s ∈ es, True) ∧ es.length ≤ maxLen) : Pure Try.prog 5 [.agg c.pv, .list 12 .sh (es.map Elem.pv)] (pB true) := by
  rw [Cond.pv_eq]
  refine PureK.of (G_ponderlaw12_AlphaLate.c ⟨fun s u => s = false → lightC c ∧ es.length ≤ 40, ?_, ?_⟩)
  · refine PureK.call (cSizeCC .nr [c] 20 (by omega)) ?_
    rintro _ ⟨r, rfl, _, hr⟩
    refine ⟨_, rfl, CIf.mk (fun h => (fun h => by cases h)) (fun h => ?_)⟩
    have h := of_decide_eq_false h
    have hr := hr (by omega)
    refine PureK.call (cHeavyCC .nr [c] (by rw [hr]; omega)) ?_
    rintro _ ⟨q, rfl, hq⟩
    refine ⟨_, rfl, CIf.mk (fun h => (fun h => by cases h)) (fun h => PureK.call (cLightT .sh es 40 (by omega)) ?_)⟩
    rintro _ ⟨q2, rfl, hq2⟩
    exact ⟨_, rfl, fun hf => ⟨(hq h).1, hq2 (by simpa using hf)⟩⟩
  · intro s u hs
    refine CIf.mk (fun h => cWakes12.call ⟨_, rfl, rfl⟩) (fun h => ?_)
    obtain ⟨hl, hn⟩ := hs h
    refine cANew (L := []) trivial fun u1 a h1 => ⟨_, rfl, cANew h1 fun u2 b h2 => ⟨_, rfl, CIf.f rfl (CIf.f rfl ?_)⟩⟩
    refine cAWant h2.swap AInv.nil (by decide) (by simp) c hl (fun x hx => by cases hx) fun _ u3 ba h3 => ⟨_, rfl, ?_⟩
    rw [ins_nil] at h3
    have hI0 : AInv [] [(least [], ⟨bareC c, 1, ba, [].filter (meetsC (bareC c))⟩)] := (AInv.nil.new (bare_bare hl) (by simp) ba (by decide)).2
    refine LoopI.each (n := es.length) (by omega) (fun i u => ∃ E m, AInv E [(0, m)] ∧ m.c = bareC c ∧ E.length ≤ i ∧ Ow [NetAt a E [(0, m)], NetAt b E []] u) ⟨[], _, hI0, rfl, Nat.le_refl _, h3⟩ ?_ ?_
    · rintro i u next hi ⟨E, m, hI, hc, hE, hO⟩ hnext
      have hIb := hI.bareEs
      refine CIf.t (by simpa using hi) ⟨by omega, _, atRow hi, _, _, _, _, _, _, _, _, _, _, _, _, rfl, ?_⟩
      refine cAPut hO hI es[i] (fun hs u4 h4 => ⟨_, _, _, rfl, by omega, _, atRow hi, _, _, _, _, _, _, _, _, _, _, _, _, rfl, ?_⟩) (fun hn0 u4 fl h4 => ⟨_, _, _, rfl, by omega, _, atRow hi, _, _, _, _, _, _, _, _, _, _, _, _, rfl, ?_⟩)
      · refine cAPut h4.swap hIb es[i] (fun _ u5 h5 => ⟨_, _, _, rfl, CIf.f rfl (hnext _ ⟨E, m, hI, hc, by omega, h5.swap⟩)⟩) (fun hn0 => by rw [hn0] at hs; cases hs)
      · refine cAPut h4.swap hIb es[i] (fun hs => by rw [hn0] at hs; cases hs) (fun _ u5 fl5 h5 => ⟨_, _, _, rfl, CIf.f rfl (hnext _ ⟨insK cmpI tagE es[i] E, (putE es[i] (0, m)).2, hI.putE hn0 (by omega), hc, ?_, h5.swap⟩)⟩)
        have := insK_len (ck := cmpI) (key := tagE) (x := es[i]) (L := E); omega
    · rintro u next ⟨E, m, hI, hc, hE, hO⟩
      have hIb := hI.bareEs
      have hml : m.l = E.filter (meetsC (bareC c)) := by have := hI.has (0, m) (by simp); rw [← hc]; exact this
      refine CIf.f (by simp) (cAWant hO.swap hIb (by decide) (by simp) c hl (fun x hx => by cases hx) fun _ u4 bb h4 => ⟨_, rfl, CIf.t rfl ?_⟩)
      rw [ins_nil] at h4
      have hI2 : AInv E [(least [], ⟨bareC c, 1, bb, E.filter (meetsC (bareC c))⟩)] := (hIb.new (bare_bare hl) (by simp) bb (by decide)).2
      have hlE : (E.filter (meetsC (bareC c))).length ≤ 1000000 := Nat.le_trans (List.length_filter_le _ _) (by omega)
      have i1 : inL (least []) [(0, m)] = E.filter (meetsC (bareC c)) := by rw [← hml]; rfl
      have i2 : inL (least []) [(least [], ⟨bareC c, 1, bb, E.filter (meetsC (bareC c))⟩)] = E.filter (meetsC (bareC c)) := rfl
      have s1 := seqIn a (least []) hI
      have s2 := seqIn b (least []) hI2
      rw [i1] at s1
      rw [i2] at s2
      refine (cIn a _).call ⟨_, _, _, rfl, cListE s1 hlE h4.swap fun u5 f5 h5 => ⟨_, _, rfl, (cIn b _).call ⟨_, _, _, rfl, cListE s2 hlE h5.swap fun u6 f6 h6 => ⟨_, _, rfl, ?_⟩⟩⟩⟩
      refine (qElems _ _ _ _ (by omega)).call (fun _ => ⟨_, rfl, CIf.t rfl (cWakes12.call ⟨_, rfl, rfl⟩)⟩) (fun h => absurd rfl h)

end Go.Proofs.Ytdiimonfmdbclaa
