import Derived.Test.YtdiimonfmdbclaaPvU
import Derived.ChangeArms
import Derived.WideShapes
import Derived.DataReads
/-
  What came in, opened: from the reading that a row speaks of to plain values.
-/
namespace Go.Eng
open Go.RowKit
set_option linter.unusedVariables false

/-- Cells of a type read, within so many steps. -/
def Reads (P : Program) (w : World) (n : Nat) (t : TypeId) (cs : List Value) : Prop := ∃ (H : Type) (enc : TypeId × Value → H) (x : DataW H × List MemPlace), DataW.trod enc P w 0 (fun _ => true) true n t cs = some x

section
variable {P : Program} {w : World} {n : Nat} {t : TypeId} {cs : List Value}

theorem Reads.int {k : IntKind} (ht : P.underlying t = some (.int k)) (h : Reads P w n t cs) : ∃ i, cs = [.int k i] ∧ (Lit.int k i).wf = true := by
  obtain ⟨H, enc, x, h⟩ := h
  cases n with
  | zero => simp [DataW.trod] at h
  | succ n =>
    unfold DataW.trod at h
    simp only [ht] at h
    split at h <;> simp_all

theorem Reads.bool (ht : P.underlying t = some .bool) (h : Reads P w n t cs) : ∃ b, cs = [.bool b] := by
  obtain ⟨H, enc, x, h⟩ := h
  cases n with
  | zero => simp [DataW.trod] at h
  | succ n =>
    unfold DataW.trod at h
    simp only [ht] at h
    split at h <;> simp_all

theorem Reads.string (ht : P.underlying t = some .string) (h : Reads P w n t cs) : ∃ s : ByteArray, cs = [.string s] ∧ s.size ≤ maxLen := by
  obtain ⟨H, enc, x, h⟩ := h
  cases n with
  | zero => simp [DataW.trod] at h
  | succ n =>
    unfold DataW.trod at h
    simp only [ht] at h
    split at h <;> simp_all

theorem Reads.struct {fs : Array Field} (ht : P.underlying t = some (.struct fs)) (h : Reads P w n t cs) : ∃ m, n = m + 1 ∧ cs.length = P.cellsOf t ∧ ∀ (i : Nat) (f : Field), fs[i]? = some f → Reads P w m f.type ((cs.drop f.offset).take (P.cellsOf f.type)) := by
  obtain ⟨H, enc, x, h⟩ := h
  obtain ⟨xs, m, rfl, _, hl, hx, hf⟩ := DataW.trod_struct ht h
  refine ⟨m, rfl, hl, fun i f hi => ?_⟩
  have := hf i f hi
  have hlt : i < xs.length := by rw [hx]; exact (Array.getElem?_eq_some_iff.1 hi).1
  rw [List.getElem?_eq_getElem hlt] at this
  exact ⟨H, enc, _, this⟩

theorem cells_rd {a : Addr} {sz : Nat} {cs : List Value} (h : w.cells? 0 a sz = some cs) (hz : sz ≠ 0) : a.spot = none ∧ rd w.heap a.block a.off sz = some cs := by
  obtain ⟨_, hl, hc⟩ := World.cells?_some h
  have h0 := hc 0 (by omega)
  have e0 : a.add 0 = a := by simp [Addr.add]
  rw [e0, List.getElem?_eq_getElem (by omega)] at h0
  unfold World.cell? at h0
  split at h0
  · rename_i c T f hb
    split at h0
    · cases h0
    · rename_i hs
      have hspot : a.spot = none := by simpa using hs
      refine ⟨hspot, ?_⟩
      have hget : ∀ i, i < sz → c[a.off + i]? = cs[i]? := by
        intro i hi
        have := hc i hi
        have e : a.add i = ⟨a.block, a.off + i, none⟩ := by
          unfold Addr.add
          split
          · rename_i h; subst h; obtain ⟨_, _, _⟩ := a; simp_all
          · rfl
        rw [e] at this
        simpa [World.cell?, hb] using this
      have hle : a.off + sz ≤ c.size := by
        have := hget (sz - 1) (by omega)
        rw [List.getElem?_eq_getElem (by omega)] at this
        have := (Array.getElem?_eq_some_iff.1 this).1
        omega
      rw [rd_of hb hle]
      congr 1
      refine List.ext_getElem? fun i => ?_
      by_cases hi : i < sz
      · rw [List.getElem?_take_of_lt hi, List.getElem?_drop, ← hget i hi]; simp
      · rw [List.getElem?_eq_none (by simp; omega), List.getElem?_eq_none (by omega)]
  · cases h0

theorem rd_append {H : Heap} {b o m k : Nat} {xs ys : List Value} (h1 : rd H b o m = some xs) (h2 : rd H b (o + m) k = some ys) : rd H b o (m + k) = some (xs ++ ys) := by
  obtain ⟨c, T, f, a1, a2, rfl⟩ := rd_block h1
  obtain ⟨c', T', f', b1, b2, rfl⟩ := rd_block h2
  rw [a1] at b1
  simp only [Option.some.injEq, Obj.cells.injEq] at b1
  obtain ⟨rfl, rfl, rfl⟩ := b1
  rw [rd_of a1 (by omega)]
  congr 1
  rw [List.take_add, List.drop_drop]

theorem rows_rd {H : Heap} {b o sz : Nat} (f : Nat → List Value) : ∀ m, m ≠ 0 → (∀ i, i < m → rd H b (o + i * sz) sz = some (f i)) → rd H b o (m * sz) = some ((List.range m).map f).flatten
  | 0, h, _ => absurd rfl h
  | 1, _, h => by have := h 0 (by omega); simpa using this
  | m + 2, _, h => by
    have ih := rows_rd f (m + 1) (by omega) (fun i hi => h i (by omega))
    have := rd_append ih (h (m + 1) (by omega))
    rw [List.range_succ, List.map_append, List.flatten_append, show (m + 2) * sz = (m + 1) * sz + sz by rw [Nat.succ_mul]]
    simpa using this

theorem Reads.slice {e : TypeId} (ht : P.underlying t = some (.slice e)) (hz : P.cellsOf e ≠ 0) (h : Reads P w n t cs) : ∃ m a len cap css, n = m + 1 ∧ cs = [.slice a len cap] ∧ len ≤ maxLen ∧ SlR w.heap a len cap (P.cellsOf e) css ∧ (∀ x ∈ css, Reads P w m e x) ∧ (cap = 0 ∨ noSpot a) := by
  obtain ⟨H, enc, x, h⟩ := h
  have hn : ∃ m, n = m + 1 := by
    cases n with
    | zero => simp [DataW.trod] at h
    | succ n => exact ⟨n, rfl⟩
  obtain ⟨m0, rfl⟩ := hn
  rcases DataW.trod_slice ht h with ⟨rfl, _⟩ | ⟨a, len, cap, elems, rest, m, hmm, rfl, rfl, hb, hl, hm, hlen, hel, hsp, hns⟩
  · exact ⟨m0, none, 0, 0, [], rfl, rfl, Nat.zero_le _, SlR.nil _ _, by simp, .inl rfl⟩
  · have hmm : m0 = m := by omega
    subst hmm
    have hex : ∀ i, i < len → ∃ c', (w.cells? 0 (a.add (i * P.cellsOf e)) (P.cellsOf e)) = some c' ∧ Reads P w m0 e c' := by
      intro i hi
      have h1 := hel i hi
      rw [List.getElem?_eq_getElem (by omega)] at h1
      obtain ⟨c', h2, h3⟩ := Option.bind_eq_some_iff.1 h1
      exact ⟨c', h2, H, enc, _, h3⟩
    have hex2 : ∃ f : Nat → List Value, ∀ i, i < len → w.cells? 0 (a.add (i * P.cellsOf e)) (P.cellsOf e) = some (f i) ∧ Reads P w m0 e (f i) := by
      classical
      refine ⟨fun i => if hi : i < len then Classical.choose (hex i hi) else [], fun i hi => ?_⟩
      simp only [dif_pos hi]
      exact Classical.choose_spec (hex i hi)
    obtain ⟨f, hf⟩ := hex2
    refine ⟨m0, some a, len, cap, (List.range len).map f, rfl, rfl, Nat.le_trans hl hm, ⟨by simp, hl, ?_, fun hn => ?_⟩, ?_, ?_⟩
    · intro x hx
      obtain ⟨i, hi, rfl⟩ := List.mem_map.1 hx
      exact (World.cells?_some (hf i (List.mem_range.1 hi)).1).2.1
    · have h0 := cells_rd (hf 0 (by omega)).1 hz
      have e0 : a.add (0 * P.cellsOf e) = a := by simp [Addr.add]
      rw [e0] at h0
      obtain ⟨hs, _⟩ := h0
      obtain ⟨b, o, s⟩ := a
      simp only at hs
      subst hs
      refine ⟨b, o, rfl, rows_rd f len hn fun i hi => ?_⟩
      have := (cells_rd (hf i hi).1 hz).2
      have e : (⟨b, o, none⟩ : Addr).add (i * P.cellsOf e) = ⟨b, o + i * P.cellsOf e, none⟩ := by
        unfold Addr.add
        split
        · rename_i h; simp [h]
        · rfl
      rw [e] at this
      exact this
    · intro x hx
      obtain ⟨i, hi, rfl⟩ := List.mem_map.1 hx
      exact (hf i (List.mem_range.1 hi)).2
    · by_cases hc0 : cap = 0
      · exact .inl hc0
      · right
        have hs : a.spot = none := by
          by_cases hl0 : len = 0
          · have h1 := (hsp rfl).2 0 (by omega)
            have hlen2 := (hsp rfl).1
            rw [List.getElem?_eq_getElem (by omega)] at h1
            obtain ⟨c', h2, _⟩ := Option.bind_eq_some_iff.1 h1
            have e0 : a.add ((len + 0) * P.cellsOf e) = a := by simp [Addr.add, hl0]
            rw [e0] at h2
            exact (cells_rd h2 hz).1
          · have h0 := cells_rd (hf 0 (by omega)).1 hz
            have e0 : a.add (0 * P.cellsOf e) = a := by simp [Addr.add]
            rw [e0] at h0
            exact h0.1
        intro x hx; cases hx; exact hs


theorem plist_of {T : Type} {Z : Fz} {pv : T → List PV} {Q : T → Prop} : ∀ {css : List (List Value)}, (∀ x ∈ css, ∃ s, RepC Z (pv s) x ∧ Q s) → ∃ l : List T, l.length = css.length ∧ RepC Z (l.map pv).flatten css.flatten ∧ (∀ s ∈ l, Q s) ∧ ∀ (i : Nat) s x, l[i]? = some s → css[i]? = some x → RepC Z (pv s) x
  | [], _ => ⟨[], rfl, RepC.nil Z, by simp, by simp⟩
  | x :: css, h => by
    obtain ⟨s, hr, hs⟩ := h x (by simp)
    obtain ⟨l, hl, hrl, hq, hi⟩ := plist_of (css := css) fun y hy => h y (by simp [hy])
    refine ⟨s :: l, by simp [hl], by simpa using hr.append hrl, by simpa using ⟨hs, hq⟩, fun i s' x' a b => ?_⟩
    cases i with
    | zero => simp only [List.getElem?_cons_zero, Option.some.injEq] at a b; subst a; subst b; exact hr
    | succ i => simp only [List.getElem?_cons_succ] at a b; exact hi i s' x' a b

/-- A slice of things. -/
theorem Reads.plist {T : Type} {pv : T → List PV} {Q : T → Prop} {e : TypeId} {sz : Nat} (ht : P.underlying t = some (.slice e)) (hc : P.cellsOf e = sz) (hz : sz ≠ 0) (he : ∀ m cs, m < n → Reads P w m e cs → ∃ s, RepC (Zall w) (pv s) cs ∧ Q s) (h : Reads P w n t cs) :
    ∃ l : List T, RepC (Zall w) [.list sz .sh (l.map pv)] cs ∧ (∀ s ∈ l, Q s) ∧ l.length ≤ maxLen := by
  obtain ⟨m, a, len, cap, css, rfl, rfl, h0, h2, h3, hsp⟩ := h.slice ht (by rw [hc]; exact hz)
  rw [hc] at h2
  obtain ⟨l, hl, hrl, hq, hi⟩ := plist_of fun x hx => he m x (by omega) (h3 x hx)
  have hll : l.length = len := by rw [hl, h2.len]
  refine ⟨l, RepC.cons rfl ?_ (RepC.nil _), hq, by omega⟩
  have hrow : ∀ r ∈ l.map pv, r.length = sz := by
    intro r hr
    obtain ⟨s, hs, rfl⟩ := List.mem_map.1 hr
    obtain ⟨i, hi1⟩ := List.mem_iff_getElem?.1 hs
    have hlt : i < css.length := by rw [← hl]; exact (List.getElem?_eq_some_iff.1 hi1).1
    have := hi i s css[i] hi1 (List.getElem?_eq_getElem hlt)
    rw [← this.1]
    exact h2.each _ (List.getElem_mem hlt)
  by_cases hn : len = 0
  · have : l = [] := List.eq_nil_of_length_eq_zero (by omega)
    subst this
    exact .list sz .sh _ a len cap 0 0 [] (fun _ _ => undef) (by simp [hn]) h2.cap hsp (by simp) (fun h => absurd hn h) (fun i j hi => by omega) (by simp) (by simp) trivial
  · obtain ⟨b, o, rfl, hr⟩ := h2.read hn
    obtain ⟨A, T', f', hA, hle, hv⟩ := rd_block hr
    have hfl : css.flatten.length = len * sz := by rw [flat_len h2.each, h2.len]
    have := rep_list (Z := Zall w) (sz := sz) (fl := .sh) (rows := l.map pv) (vs := css.flatten) (b := b) (o := o) (c := cap) (C := A.toList) hrow hrl (Zall_at hA) (fun k hk => by
      rw [hv] at hk ⊢
      rw [List.getElem?_take, if_pos (by rw [hv] at hfl; omega), List.getElem?_drop]) (by simp [hll, h2.cap]) trivial
    rw [List.length_map, hll] at this
    exact this

theorem Reads.pint {k : IntKind} (ht : P.underlying t = some (.int k)) (h : Reads P w n t cs) : ∃ i, RepC (Zall w) [.raw (.int k i)] cs ∧ (Lit.int k i).wf = true := by
  obtain ⟨i, rfl, hw⟩ := h.int ht
  exact ⟨i, RepC.cons rfl (.raw _ rfl rfl) (RepC.nil _), hw⟩
theorem Reads.pbool (ht : P.underlying t = some .bool) (h : Reads P w n t cs) : ∃ i, RepC (Zall w) [pB i] cs := by
  obtain ⟨i, rfl⟩ := h.bool ht
  exact ⟨i, RepC.cons rfl (.raw _ rfl rfl) (RepC.nil _)⟩
theorem Reads.pstr (ht : P.underlying t = some .string) (h : Reads P w n t cs) : ∃ i : ByteArray, RepC (Zall w) [pS i] cs ∧ i.size ≤ maxLen := by
  obtain ⟨i, rfl, hw⟩ := h.string ht
  exact ⟨i, RepC.cons rfl (.raw _ rfl rfl) (RepC.nil _), hw⟩

/-- A field of a struct that reads. -/
theorem fldR {m : Nat} {fs : Array Field} (hf : ∀ (i : Nat) (f : Field), fs[i]? = some f → Reads P w m f.type ((cs.drop f.offset).take (P.cellsOf f.type))) (i off : Nat) {ty k : Nat} (h3 : P.cellsOf ty = k) {f : Field} (hi : fs[i]? = some f) (h1 : f.type = ty) (h2 : f.offset = off) : Reads P w m ty ((cs.drop off).take k) := by
  subst h1 h2 h3; exact hf i f hi

/-- A field behind what is known. -/
theorem RepC.field {Z : Fz} {ps qs : List PV} {off k : Nat} {cs : List Value} (h1 : RepC Z ps (cs.take off)) (h2 : RepC Z qs ((cs.drop off).take k)) (hl : off + k ≤ cs.length) : RepC Z (ps ++ qs) (cs.take (off + k)) := by
  rw [List.take_add]
  exact h1.append h2

section
variable {H : Type} {enc : TypeId × Value → H} {r : Reach} {base : Nat} {v : Value} {d : DataW H} {p : List MemPlace}

theorem Reads.of (h : DataW.Trod enc P w 0 (fun _ => true) true t v d p) : ∃ n, Reads P w n t v.cells.toList := let ⟨n, hn⟩ := h; ⟨n, H, enc, _, hn⟩

theorem pargInt {k : IntKind} (ht : P.underlying t = some (.int k)) (hv : Value.okWide P w r base t v) (h : DataW.Trod enc P w 0 (fun _ => true) true t v d p) : ∃ i, Rep (Zall w) (.raw (.int k i)) v ∧ (Lit.int k i).wf = true := by
  obtain ⟨i, rfl⟩ := WideShapes.okWide_int ht hv
  obtain ⟨n, hn⟩ := Reads.of h
  obtain ⟨j, e, hw⟩ := hn.int ht
  simp [Value.cells] at e
  subst e
  exact ⟨_, .raw _ rfl rfl, hw⟩

theorem pargStr (ht : P.underlying t = some .string) (hv : Value.okWide P w r base t v) (h : DataW.Trod enc P w 0 (fun _ => true) true t v d p) : ∃ s : ByteArray, Rep (Zall w) (pS s) v ∧ s.size ≤ maxLen := by
  obtain ⟨i, rfl⟩ := WideShapes.okWide_string ht hv
  obtain ⟨n, hn⟩ := Reads.of h
  obtain ⟨j, e, hw⟩ := hn.string ht
  simp [Value.cells] at e
  subst e
  exact ⟨_, .raw _ rfl rfl, hw⟩

theorem pargAgg {T : Type} {pv : T → List PV} {Q : T → Prop} {fs : Array Field} (ht : P.underlying t = some (.struct fs)) (he : ∀ m cs, Reads P w m t cs → ∃ s, RepC (Zall w) (pv s) cs ∧ Q s) (hv : Value.okWide P w r base t v) (h : DataW.Trod enc P w 0 (fun _ => true) true t v d p) :
    ∃ s, Rep (Zall w) (.agg (pv s)) v ∧ Q s := by
  simp only [Value.okWide, ht] at hv
  obtain ⟨cs, rfl, _, _⟩ := hv
  obtain ⟨n, hn⟩ := Reads.of h
  obtain ⟨s, e, hq⟩ := he n _ hn
  exact ⟨s, e.toAgg, hq⟩

theorem pargList {T : Type} {pv : T → List PV} {Q : T → Prop} {e : TypeId} {sz : Nat} (ht : P.underlying t = some (.slice e)) (hc : P.cellsOf e = sz) (hz : sz ≠ 0) (he : ∀ m cs, Reads P w m e cs → ∃ s, RepC (Zall w) (pv s) cs ∧ Q s) (hv : Value.okWide P w r base t v) (h : DataW.Trod enc P w 0 (fun _ => true) true t v d p) :
    ∃ l : List T, Rep (Zall w) (.list sz .sh (l.map pv)) v ∧ (∀ s ∈ l, Q s) ∧ l.length ≤ maxLen := by
  obtain ⟨a, len, cap, rfl⟩ := WideShapes.okWide_slice ht hv
  obtain ⟨n, hn⟩ := Reads.of h
  obtain ⟨l, h2, h3, h4⟩ := hn.plist ht hc hz (fun m cs _ hr => he m cs hr)
  obtain ⟨v, vs, e, _, hr, _⟩ := h2.inv
  simp only [Value.cells, List.cons.injEq] at e
  refine ⟨l, ?_, h3, h4⟩
  rw [e.1]; exact hr

end
end
end Go.Eng
