import Derived.Test.YtfliaomdedfleaaDomA
import Derived.ChangeArms
import Derived.WideShapes
import Derived.DataReads
/-
  What came in, opened: from the reading that a row speaks of to cells.
-/
namespace Go.Eng
open Go.RowKit

/-- Cells of a type read, within so many steps. -/
def Reads (P : Program) (w : World) (n : Nat) (t : TypeId) (cs : List Value) : Prop := ∃ (H : Type) (enc : TypeId × Value → H) (x : DataW H × List MemPlace), DataW.trod enc P w 0 (fun _ => true) true n t cs = some x

section
variable {P : Program} {w : World} {n : Nat} {t : TypeId} {cs : List Value}

theorem Reads.int {k : IntKind} (ht : P.underlying t = some (.int k)) (h : Reads P w n t cs) : ∃ i, cs = [.int k i] ∧ (Lit.int k i).wf = true := by
  obtain ⟨H, enc, x, h⟩ := h
  cases n with
  | zero => simp [DataW.trod] at h
  | succ n =>
    unfold DataW.trod at h
    simp only [ht] at h
    split at h <;> simp_all

theorem Reads.bool (ht : P.underlying t = some .bool) (h : Reads P w n t cs) : ∃ b, cs = [.bool b] := by
  obtain ⟨H, enc, x, h⟩ := h
  cases n with
  | zero => simp [DataW.trod] at h
  | succ n =>
    unfold DataW.trod at h
    simp only [ht] at h
    split at h <;> simp_all

theorem Reads.string (ht : P.underlying t = some .string) (h : Reads P w n t cs) : ∃ s : ByteArray, cs = [.string s] ∧ s.size ≤ maxLen := by
  obtain ⟨H, enc, x, h⟩ := h
  cases n with
  | zero => simp [DataW.trod] at h
  | succ n =>
    unfold DataW.trod at h
    simp only [ht] at h
    split at h <;> simp_all

theorem Reads.struct {fs : Array Field} (ht : P.underlying t = some (.struct fs)) (h : Reads P w n t cs) : ∃ m, n = m + 1 ∧ cs.length = P.cellsOf t ∧ ∀ (i : Nat) (f : Field), fs[i]? = some f → Reads P w m f.type ((cs.drop f.offset).take (P.cellsOf f.type)) := by
  obtain ⟨H, enc, x, h⟩ := h
  obtain ⟨xs, m, rfl, _, hl, hx, hf⟩ := DataW.trod_struct ht h
  refine ⟨m, rfl, hl, fun i f hi => ?_⟩
  have := hf i f hi
  have hlt : i < xs.length := by rw [hx]; exact (Array.getElem?_eq_some_iff.1 hi).1
  rw [List.getElem?_eq_getElem hlt] at this
  exact ⟨H, enc, _, this⟩

theorem cells_rd {a : Addr} {sz : Nat} {cs : List Value} (h : w.cells? 0 a sz = some cs) (hz : sz ≠ 0) : a.spot = none ∧ rd w.heap a.block a.off sz = some cs := by
  obtain ⟨_, hl, hc⟩ := World.cells?_some h
  have h0 := hc 0 (by omega)
  have e0 : a.add 0 = a := by simp [Addr.add]
  rw [e0, List.getElem?_eq_getElem (by omega)] at h0
  unfold World.cell? at h0
  split at h0
  · rename_i c T f hb
    split at h0
    · cases h0
    · rename_i hs
      have hspot : a.spot = none := by simpa using hs
      refine ⟨hspot, ?_⟩
      have hget : ∀ i, i < sz → c[a.off + i]? = cs[i]? := by
        intro i hi
        have := hc i hi
        have e : a.add i = ⟨a.block, a.off + i, none⟩ := by
          unfold Addr.add
          split
          · rename_i h; subst h; obtain ⟨_, _, _⟩ := a; simp_all
          · rfl
        rw [e] at this
        simpa [World.cell?, hb] using this
      have hle : a.off + sz ≤ c.size := by
        have := hget (sz - 1) (by omega)
        rw [List.getElem?_eq_getElem (by omega)] at this
        have := (Array.getElem?_eq_some_iff.1 this).1
        omega
      rw [rd_of hb hle]
      congr 1
      refine List.ext_getElem? fun i => ?_
      by_cases hi : i < sz
      · rw [List.getElem?_take_of_lt hi, List.getElem?_drop, ← hget i hi]; simp
      · rw [List.getElem?_eq_none (by simp; omega), List.getElem?_eq_none (by omega)]
  · cases h0

theorem rd_append {H : Heap} {b o m k : Nat} {xs ys : List Value} (h1 : rd H b o m = some xs) (h2 : rd H b (o + m) k = some ys) : rd H b o (m + k) = some (xs ++ ys) := by
  obtain ⟨c, T, f, a1, a2, rfl⟩ := rd_block h1
  obtain ⟨c', T', f', b1, b2, rfl⟩ := rd_block h2
  rw [a1] at b1
  simp only [Option.some.injEq, Obj.cells.injEq] at b1
  obtain ⟨rfl, rfl, rfl⟩ := b1
  rw [rd_of a1 (by omega)]
  congr 1
  rw [List.take_add, List.drop_drop]

theorem rows_rd {H : Heap} {b o sz : Nat} (f : Nat → List Value) : ∀ m, m ≠ 0 → (∀ i, i < m → rd H b (o + i * sz) sz = some (f i)) → rd H b o (m * sz) = some ((List.range m).map f).flatten
  | 0, h, _ => absurd rfl h
  | 1, _, h => by have := h 0 (by omega); simpa using this
  | m + 2, _, h => by
    have ih := rows_rd f (m + 1) (by omega) (fun i hi => h i (by omega))
    have := rd_append ih (h (m + 1) (by omega))
    rw [List.range_succ, List.map_append, List.flatten_append, show (m + 2) * sz = (m + 1) * sz + sz by rw [Nat.succ_mul]]
    simpa using this

theorem Reads.slice {e : TypeId} (ht : P.underlying t = some (.slice e)) (hz : P.cellsOf e ≠ 0) (h : Reads P w n t cs) : ∃ m a len cap css, n = m + 1 ∧ cs = [.slice a len cap] ∧ len ≤ maxLen ∧ SlR w.heap a len cap (P.cellsOf e) css ∧ ∀ x ∈ css, Reads P w m e x := by
  obtain ⟨H, enc, x, h⟩ := h
  have hn : ∃ m, n = m + 1 := by
    cases n with
    | zero => simp [DataW.trod] at h
    | succ n => exact ⟨n, rfl⟩
  obtain ⟨m0, rfl⟩ := hn
  rcases DataW.trod_slice ht h with ⟨rfl, _⟩ | ⟨a, len, cap, elems, rest, m, hmm, rfl, rfl, hb, hl, hm, hlen, hel, hsp, hns⟩
  · exact ⟨m0, none, 0, 0, [], rfl, rfl, Nat.zero_le _, SlR.nil _ _, by simp⟩
  · have hmm : m0 = m := by omega
    subst hmm
    have hex : ∀ i, i < len → ∃ c', (w.cells? 0 (a.add (i * P.cellsOf e)) (P.cellsOf e)) = some c' ∧ Reads P w m0 e c' := by
      intro i hi
      have h1 := hel i hi
      rw [List.getElem?_eq_getElem (by omega)] at h1
      obtain ⟨c', h2, h3⟩ := Option.bind_eq_some_iff.1 h1
      exact ⟨c', h2, H, enc, _, h3⟩
    have hex2 : ∃ f : Nat → List Value, ∀ i, i < len → w.cells? 0 (a.add (i * P.cellsOf e)) (P.cellsOf e) = some (f i) ∧ Reads P w m0 e (f i) := by
      classical
      refine ⟨fun i => if hi : i < len then Classical.choose (hex i hi) else [], fun i hi => ?_⟩
      simp only [dif_pos hi]
      exact Classical.choose_spec (hex i hi)
    obtain ⟨f, hf⟩ := hex2
    refine ⟨m0, some a, len, cap, (List.range len).map f, rfl, rfl, Nat.le_trans hl hm, ⟨by simp, hl, ?_, fun hn => ?_⟩, ?_⟩
    · intro x hx
      obtain ⟨i, hi, rfl⟩ := List.mem_map.1 hx
      exact (World.cells?_some (hf i (List.mem_range.1 hi)).1).2.1
    · have h0 := cells_rd (hf 0 (by omega)).1 hz
      have e0 : a.add (0 * P.cellsOf e) = a := by simp [Addr.add]
      rw [e0] at h0
      obtain ⟨hs, _⟩ := h0
      obtain ⟨b, o, s⟩ := a
      simp only at hs
      subst hs
      refine ⟨b, o, rfl, rows_rd f len hn fun i hi => ?_⟩
      have := (cells_rd (hf i hi).1 hz).2
      have e : (⟨b, o, none⟩ : Addr).add (i * P.cellsOf e) = ⟨b, o + i * P.cellsOf e, none⟩ := by
        unfold Addr.add
        split
        · rename_i h; simp [h]
        · rfl
      rw [e] at this
      exact this
    · intro x hx
      obtain ⟨i, hi, rfl⟩ := List.mem_map.1 hx
      exact (hf i (List.mem_range.1 hi)).2

/-- A slice that came in as an argument lies at a plain place. -/
theorem okWide_noSpot {r : Reach} {base : Nat} {e : TypeId} {a : Option Addr} {len cap : Nat} (ht : P.underlying t = some (.slice e)) (h : Value.okWide P w r base t (.slice a len cap)) : noSpot a := by
  simp only [Value.okWide, ht, Cell.okWide, Cell.ok] at h
  intro x hx
  subst hx
  exact h.2.2.2.1

theorem list_of {T : Type} {cells : T → List Value} {Q : T → Prop} : ∀ {css : List (List Value)}, (∀ x ∈ css, ∃ s, x = cells s ∧ Q s) → ∃ l : List T, css = l.map cells ∧ ∀ s ∈ l, Q s
  | [], _ => ⟨[], rfl, by simp⟩
  | x :: css, h => by
    obtain ⟨s, rfl, hs⟩ := h x (by simp)
    obtain ⟨l, rfl, hl⟩ := list_of (css := css) fun y hy => h y (by simp [hy])
    exact ⟨s :: l, rfl, by simpa using ⟨hs, hl⟩⟩

/-- A slice of things. -/
theorem Reads.things {T : Type} {cells : T → List Value} {Q : T → Prop} {e : TypeId} {sz : Nat} (ht : P.underlying t = some (.slice e)) (hc : P.cellsOf e = sz) (hz : sz ≠ 0) (he : ∀ m cs, m < n → Reads P w m e cs → ∃ s, cs = cells s ∧ Q s) (h : Reads P w n t cs) :
    ∃ a len cap, ∃ l : List T, cs = [.slice a len cap] ∧ len ≤ maxLen ∧ SlR w.heap a len cap sz (l.map cells) ∧ ∀ s ∈ l, Q s := by
  obtain ⟨m, a, len, cap, css, rfl, h1, h0, h2, h3⟩ := h.slice ht (by rw [hc]; exact hz)
  obtain ⟨l, rfl, hl⟩ := list_of fun x hx => he m x (by omega) (h3 x hx)
  exact ⟨a, len, cap, l, h1, h0, by rw [hc] at h2; exact h2, hl⟩

section
variable {H : Type} {enc : TypeId × Value → H} {r : Reach} {base : Nat} {v : Value} {d : DataW H} {p : List MemPlace}

theorem Reads.of (h : DataW.Trod enc P w 0 (fun _ => true) true t v d p) : ∃ n, Reads P w n t v.cells.toList := let ⟨n, hn⟩ := h; ⟨n, H, enc, _, hn⟩

theorem argInt {k : IntKind} (ht : P.underlying t = some (.int k)) (hv : Value.okWide P w r base t v) (h : DataW.Trod enc P w 0 (fun _ => true) true t v d p) : ∃ i, v = .int k i ∧ (Lit.int k i).wf = true := by
  obtain ⟨i, rfl⟩ := WideShapes.okWide_int ht hv
  obtain ⟨n, hn⟩ := Reads.of h
  obtain ⟨j, e, hw⟩ := hn.int ht
  simp [Value.cells] at e
  subst e
  exact ⟨_, rfl, hw⟩

theorem argString (ht : P.underlying t = some .string) (hv : Value.okWide P w r base t v) (h : DataW.Trod enc P w 0 (fun _ => true) true t v d p) : ∃ s : ByteArray, v = .string s ∧ s.size ≤ maxLen := by
  obtain ⟨i, rfl⟩ := WideShapes.okWide_string ht hv
  obtain ⟨n, hn⟩ := Reads.of h
  obtain ⟨j, e, hw⟩ := hn.string ht
  simp [Value.cells] at e
  subst e
  exact ⟨_, rfl, hw⟩

theorem argAgg {T : Type} {cells : T → List Value} {Q : T → Prop} {fs : Array Field} (ht : P.underlying t = some (.struct fs)) (he : ∀ m cs, Reads P w m t cs → ∃ s, cs = cells s ∧ Q s) (hv : Value.okWide P w r base t v) (h : DataW.Trod enc P w 0 (fun _ => true) true t v d p) :
    ∃ s, v = .agg (cells s).toArray ∧ Q s := by
  simp only [Value.okWide, ht] at hv
  obtain ⟨cs, rfl, _, _⟩ := hv
  obtain ⟨n, hn⟩ := Reads.of h
  obtain ⟨s, e, hq⟩ := he n _ hn
  refine ⟨s, ?_, hq⟩
  have e' : cs.toList = cells s := e
  rw [← e']

theorem argSlice {T : Type} {cells : T → List Value} {Q : T → Prop} {e : TypeId} {sz : Nat} (ht : P.underlying t = some (.slice e)) (hc : P.cellsOf e = sz) (hz : sz ≠ 0) (he : ∀ m cs, Reads P w m e cs → ∃ s, cs = cells s ∧ Q s) (hv : Value.okWide P w r base t v) (h : DataW.Trod enc P w 0 (fun _ => true) true t v d p) :
    ∃ a len cap, ∃ l : List T, v = .slice a len cap ∧ SlC w.heap a len cap sz (l.map cells) ∧ ∀ s ∈ l, Q s := by
  obtain ⟨a, len, cap, rfl⟩ := WideShapes.okWide_slice ht hv
  obtain ⟨n, hn⟩ := Reads.of h
  obtain ⟨a', len', cap', l, e', _, h2, h3⟩ := hn.things ht hc hz (fun m cs _ hr => he m cs hr)
  simp [Value.cells] at e'
  obtain ⟨rfl, rfl, rfl⟩ := e'
  exact ⟨_, _, _, l, rfl, ⟨h2, okWide_noSpot ht hv⟩, h3⟩

end
end
end Go.Eng
