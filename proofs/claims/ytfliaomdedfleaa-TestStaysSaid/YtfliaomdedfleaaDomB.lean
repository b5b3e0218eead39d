import Derived.Test.YtfliaomdedfleaaDomA
import GoSem.ClaimData
/-
  The plain law of conditions: what is met is met again; and trees of conditions in cells.
-/
namespace Go.Eng
open Go.RowKit

theorem met_again {t : Test} {ls : List Sym} {s : Sym} {l l' : List Bind} (h : met t ls s l = some l') : (∃ r, l' = l ++ r) ∧ ∀ r, met t ls s (l' ++ r) = some (l' ++ r) := by
  unfold met at h
  by_cases h8 : t.rel = 8
  · rw [if_pos h8] at h
    split at h
    · rename_i ha
      cases h
      exact ⟨⟨[], by simp⟩, fun r => by rw [met, if_pos h8, if_pos ha]⟩
    · cases h
  · rw [if_neg h8] at h
    by_cases hr : t.rel < 1 ∨ t.rel > 7
    · rw [if_pos hr] at h; cases h
    · rw [if_neg hr] at h
      by_cases hv : t.var = ⟨#[]⟩
      · rw [if_pos hv] at h
        split at h
        · rename_i ha
          cases h
          exact ⟨⟨[], by simp⟩, fun r => by rw [met, if_neg h8, if_neg hr, if_pos hv, if_pos ha]⟩
        · cases h
      · rw [if_neg hv] at h
        cases hg : getB l t.var with
        | some x =>
          rw [hg] at h
          simp only at h
          split at h
          · rename_i ha
            cases h
            refine ⟨⟨[], by simp⟩, fun r => ?_⟩
            rw [met, if_neg h8, if_neg hr, if_neg hv, getB_append, hg]
            simp [ha]
          · cases h
        | none =>
          rw [hg] at h
          simp only at h
          split at h
          · rename_i h1
            cases h
            refine ⟨⟨_, rfl⟩, fun r => ?_⟩
            have hg2 : getB (l ++ [⟨t.var, s⟩] ++ r) t.var = some s := by
              rw [List.append_assoc, getB_append, hg]
              simp [getB, strEq_iff]
            rw [met, if_neg h8, if_neg hr, if_neg hv, hg2]
            have hh : holds t.rel s s = true := by rw [h1, holds]; exact symEq_self s
            simp [hh]
          · cases h

theorem allT_again {ts : List (Test × List Sym)} {s : Sym} {l l' : List Bind} (h : allT ts s l = some l') : (∃ r, l' = l ++ r) ∧ ∀ r, allT ts s (l' ++ r) = some (l' ++ r) := by
  induction ts generalizing l with
  | nil => simp only [allT, Option.some.injEq] at h; subst h; exact ⟨⟨[], by simp⟩, fun r => rfl⟩
  | cons t ts ih =>
    simp only [allT, Option.bind_eq_some_iff] at h
    obtain ⟨l1, h1, h2⟩ := h
    obtain ⟨⟨r1, e1⟩, m1⟩ := met_again h1
    obtain ⟨⟨r2, e2⟩, m2⟩ := ih h2
    refine ⟨⟨r1 ++ r2, by rw [e2, e1, List.append_assoc]⟩, fun r => ?_⟩
    have := m1 (r2 ++ r)
    rw [← List.append_assoc, ← e2] at this
    simp only [allT, this, Option.bind_some]
    exact m2 r

theorem condS_again {c : CondD} {ats vts : List (Test × List Sym)} {e : Elem} {l l' : List Bind} (h : condS c ats vts e l = some l') : (∃ r, l' = l ++ r) ∧ condS c ats vts e l' = some l' := by
  unfold condS at h
  split at h
  · rename_i hc
    simp only [Option.bind_eq_some_iff] at h
    obtain ⟨l1, h1, l2, h2, h3⟩ := h
    obtain ⟨⟨r1, e1⟩, m1⟩ := met_again h1
    obtain ⟨⟨r2, e2⟩, m2⟩ := allT_again h2
    obtain ⟨⟨r3, e3⟩, m3⟩ := allT_again h3
    refine ⟨⟨r1 ++ r2 ++ r3, by rw [e3, e2, e1]; simp⟩, ?_⟩
    have a1 := m1 (r2 ++ r3)
    rw [← List.append_assoc, ← e2, ← e3] at a1
    have a2 := m2 r3
    rw [← e3] at a2
    have a3 := m3 []
    rw [List.append_nil] at a3
    rw [condS, if_pos hc, a1, Option.bind_some, a2, Option.bind_some, a3]
  · cases h

theorem condS_len {c : CondD} {ats vts : List (Test × List Sym)} {e : Elem} {l l' : List Bind} (h : condS c ats vts e l = some l') : l'.length ≤ l.length + 1 + ats.length + vts.length := by
  unfold condS at h
  split at h
  · simp only [Option.bind_eq_some_iff] at h
    obtain ⟨l1, h1, l2, h2, h3⟩ := h
    have := met_len h1; have := allT_len h2; have := allT_len h3; omega
  · cases h

/-- Tests in cells, their lists too, however long. -/
structure TestsR (H : Heap) (a : Option Addr) (n c : Nat) (ts : List (Test × List Sym)) : Prop where
  sl : SlR H a n c 6 (ts.map fun p => p.1.cells)
  len : n ≤ maxLen
  each : ∀ p ∈ ts, SlR H p.1.la p.1.ln p.1.lc 3 (p.2.map Sym.cells)

theorem TestsR.below {w w' : World} {a : Option Addr} {n c : Nat} {ts : List (Test × List Sym)} (h : TestsR w.heap a n c ts) (hb : Below w.heap.size w w') : TestsR w'.heap a n c ts := ⟨h.sl.below hb, h.len, fun p hp => (h.each p hp).below hb⟩

/-- A tree of conditions, of some depth. -/
def CondsR (H : Heap) : Nat → Option Addr → Nat → Nat → Prop
  | 0, _, _, _ => False
  | f + 1, a, n, c => n ≤ maxLen ∧ ∃ cds : List CondD, SlR H a n c 7 (cds.map CondD.cells) ∧ ∀ cd ∈ cds, (∃ ats, TestsR H cd.aa cd.an cd.ac ats) ∧ (∃ vts, TestsR H cd.va cd.vn cd.vc vts) ∧ CondsR H f cd.ca cd.cn cd.cc

theorem CondsR.below {w w' : World} (hb : Below w.heap.size w w') : ∀ {f : Nat} {a : Option Addr} {n c : Nat}, CondsR w.heap f a n c → CondsR w'.heap f a n c
  | 0, _, _, _, h => h
  | _ + 1, _, _, _, ⟨hn, cds, hs, he⟩ => ⟨hn, cds, hs.below hb, fun cd hc => let ⟨⟨ats, h1⟩, ⟨vts, h2⟩, h3⟩ := he cd hc; ⟨⟨ats, h1.below hb⟩, ⟨vts, h2.below hb⟩, h3.below hb⟩⟩

theorem CondsR.more {H : Heap} : ∀ {f : Nat} {a : Option Addr} {n c : Nat}, CondsR H f a n c → CondsR H (f + 1) a n c
  | 0, _, _, _, h => h.elim
  | _ + 1, _, _, _, ⟨hn, cds, hs, he⟩ => ⟨hn, cds, hs, fun cd hc => let ⟨h1, h2, h3⟩ := he cd hc; ⟨h1, h2, h3.more⟩⟩

/-- A condition in cells. -/
structure CondR (H : Heap) (cd : CondD) : Prop where
  attr : ∃ ats, TestsR H cd.aa cd.an cd.ac ats
  value : ∃ vts, TestsR H cd.va cd.vn cd.vc vts
  conds : ∃ f, CondsR H f cd.ca cd.cn cd.cc

theorem CondR.below {w w' : World} {cd : CondD} (h : CondR w.heap cd) (hb : Below w.heap.size w w') : CondR w'.heap cd :=
  ⟨let ⟨x, h⟩ := h.attr; ⟨x, h.below hb⟩, let ⟨x, h⟩ := h.value; ⟨x, h.below hb⟩, let ⟨x, h⟩ := h.conds; ⟨x, h.below hb⟩⟩

end Go.Eng
