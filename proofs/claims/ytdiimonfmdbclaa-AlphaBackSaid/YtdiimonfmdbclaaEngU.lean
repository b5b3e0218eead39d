import Derived.Test.YtdiimonfmdbclaaEngM
import Derived.IntWalk
/-
  The engine, for its users: reading rows of cells; slices that read as lists; append.
-/
namespace Go.Eng
open Go.RowKit

theorem rd_block {H : Heap} {b o n : Nat} {vs : List Value} (h : rd H b o n = some vs) : ∃ c T f, H[b]? = some (.cells c T f) ∧ o + n ≤ c.size ∧ vs = (c.toList.drop o).take n := by
  unfold rd at h
  cases hb : H[b]? with
  | none => simp [hb] at h
  | some ob =>
    cases ob <;> simp only [hb] at h <;> try (cases h; done)
    rename_i c T f
    split at h
    · rename_i hl; simp only [Option.some.injEq] at h; exact ⟨c, T, f, rfl, hl, h.symm⟩
    · cases h

theorem rd_of {H : Heap} {b o n : Nat} {c : Array Value} {T : TypeId} {f : Nat × Nat} (h : H[b]? = some (.cells c T f)) (hl : o + n ≤ c.size) : rd H b o n = some ((c.toList.drop o).take n) := by
  simp [rd, h, hl]

theorem rd_lt {H : Heap} {b o n : Nat} {vs : List Value} (h : rd H b o n = some vs) : b < H.size := by
  obtain ⟨c, T, f, h1, _⟩ := rd_block h
  exact (Array.getElem?_eq_some_iff.1 h1).1

theorem rd_len {H : Heap} {b o n : Nat} {vs : List Value} (h : rd H b o n = some vs) : vs.length = n := by
  obtain ⟨c, T, f, h1, h2, rfl⟩ := rd_block h
  simp; omega

theorem rd_same {H H' : Heap} {b o n : Nat} {vs : List Value} (h : rd H b o n = some vs) (hb : H'[b]? = H[b]?) : rd H' b o n = some vs := by
  unfold rd at *; rw [hb]; exact h

theorem Below.rd {w w' : World} (hb : Below w.heap.size w w') {b o n : Nat} {vs : List Value} (h : rd w.heap b o n = some vs) : rd w'.heap b o n = some vs :=
  rd_same h (hb.block b (rd_lt h))

theorem Mod.rd {F : Nat → Prop} {w w' : World} (hb : Mod F w w') {b o n : Nat} {vs : List Value} (h : rd w.heap b o n = some vs) (hF : ¬ F b) : rd w'.heap b o n = some vs :=
  rd_same h (hb.keep b (rd_lt h) hF)

theorem rd_sub {H : Heap} {b o n i k : Nat} {vs : List Value} (h : rd H b o n = some vs) (hi : i + k ≤ n) : rd H b (o + i) k = some ((vs.drop i).take k) := by
  obtain ⟨c, T, f, h1, h2, rfl⟩ := rd_block h
  rw [rd_of h1 (by omega)]
  congr 1
  rw [List.drop_take, List.take_take, List.drop_drop]
  congr 1; omega

theorem flat_len {sz : Nat} : ∀ {css : List (List Value)}, (∀ x ∈ css, x.length = sz) → css.flatten.length = css.length * sz
  | [], _ => by simp
  | x :: css, h => by
    have ih := flat_len (css := css) (fun y hy => h y (by simp [hy]))
    rw [List.flatten_cons, List.length_append, List.length_cons, h x (by simp), ih, Nat.add_mul, Nat.one_mul]; omega

theorem flat_get {sz : Nat} : ∀ {css : List (List Value)} {i : Nat} (hi : i < css.length), (∀ x ∈ css, x.length = sz) → (css.flatten.drop (i * sz)).take sz = css[i]
  | x :: css, 0, _, h => by
    simp only [Nat.zero_mul, List.drop_zero, List.flatten_cons, List.getElem_cons_zero]
    rw [List.take_append_of_le_length (by rw [h x (by simp)]; exact Nat.le_refl _), List.take_of_length_le (by rw [h x (by simp)]; exact Nat.le_refl _)]
  | x :: css, i + 1, hi, h => by
    simp only [List.flatten_cons, List.getElem_cons_succ]
    have e : (i + 1) * sz = x.length + i * sz := by rw [h x (by simp), Nat.add_mul, Nat.one_mul, Nat.add_comm]
    rw [e, ← List.drop_drop, List.drop_left]
    exact flat_get (by simpa using hi) (fun y hy => h y (by simp [hy]))

/-- A slice of elements of sz cells each reads as css. -/
structure SlR (H : Heap) (a : Option Addr) (n c sz : Nat) (css : List (List Value)) : Prop where
  len : css.length = n
  cap : n ≤ c
  each : ∀ x ∈ css, x.length = sz
  read : n ≠ 0 → ∃ b o, a = some ⟨b, o, none⟩ ∧ rd H b o (n * sz) = some css.flatten

/-- The same, and its place is a plain one. -/
structure SlC (H : Heap) (a : Option Addr) (n c sz : Nat) (css : List (List Value)) : Prop extends SlR H a n c sz css where
  spot : noSpot a

theorem SlR.nil (H : Heap) (sz : Nat) : SlR H none 0 0 sz [] := ⟨rfl, Nat.le_refl _, by simp, fun h => absurd rfl h⟩
theorem SlC.nil (H : Heap) (sz : Nat) : SlC H none 0 0 sz [] := ⟨SlR.nil H sz, fun _ h => (by cases h)⟩

theorem SlR.below {w w' : World} {a : Option Addr} {n c sz : Nat} {css : List (List Value)} (h : SlR w.heap a n c sz css) (hb : Below w.heap.size w w') : SlR w'.heap a n c sz css :=
  ⟨h.len, h.cap, h.each, fun hn => let ⟨b, o, e, hr⟩ := h.read hn; ⟨b, o, e, Below.rd hb hr⟩⟩

theorem SlC.below {w w' : World} {a : Option Addr} {n c sz : Nat} {css : List (List Value)} (h : SlC w.heap a n c sz css) (hb : Below w.heap.size w w') : SlC w'.heap a n c sz css := ⟨h.toSlR.below hb, h.spot⟩

theorem SlR.same {H H' : Heap} {a : Option Addr} {n c sz : Nat} {css : List (List Value)} (h : SlR H a n c sz css) (hb : ∀ b o, a = some ⟨b, o, none⟩ → H'[b]? = H[b]?) : SlR H' a n c sz css :=
  ⟨h.len, h.cap, h.each, fun hn => let ⟨b, o, e, hr⟩ := h.read hn; ⟨b, o, e, rd_same hr (hb b o e)⟩⟩

theorem SlC.same {H H' : Heap} {a : Option Addr} {n c sz : Nat} {css : List (List Value)} (h : SlC H a n c sz css) (hb : ∀ b o, a = some ⟨b, o, none⟩ → H'[b]? = H[b]?) : SlC H' a n c sz css := ⟨h.toSlR.same hb, h.spot⟩

/-- Element i. -/
theorem SlR.at {H : Heap} {a : Option Addr} {n c sz : Nat} {css : List (List Value)} (h : SlR H a n c sz css) {i : Nat} (hi : i < css.length) : ∃ b o, a = some ⟨b, o, none⟩ ∧ rd H b (o + i * sz) sz = some css[i] := by
  have hn : n ≠ 0 := by have := h.len; omega
  obtain ⟨b, o, e, hr⟩ := h.read hn
  refine ⟨b, o, e, ?_⟩
  have hle : i * sz + sz ≤ n * sz := by rw [← Nat.succ_mul]; exact Nat.mul_le_mul_right _ (by have := h.len; omega)
  have := rd_sub (i := i * sz) (k := sz) hr hle
  rw [this, flat_get hi h.each]

/-- The type's row for an append. -/
def ti (P : Program) (e : TypeId) (sz bytes : Nat) (zero : List Value) : Prop := (P.info? e).map (fun i => (i.size, i.bytes, i.zero.map fun z => z.cells.toList)) = some (sz, bytes, some zero)

/-- A new slice, made by the function at hand: its block may be written. -/
structure OwnS (u : UW) (a : Option Addr) (n c sz : Nat) (css : List (List Value)) : Prop where
  sl : SlC u.heap a n c sz css
  own : ∀ b o, a = some ⟨b, o, none⟩ → u.pub b ∧ ∃ C T, u.heap[b]? = some (.cells C T (0, 0)) ∧ o + c * sz ≤ C.size
  nil : a = none → c = 0

theorem Born.get {w w' : World} {b : Nat} {o o' : Obj} {c : Nat} (h : Born w w' b o) (hc : w.heap[c]? = some o') : w'.heap[c]? = some o' := by
  rw [h.below.block c (Array.getElem?_eq_some_iff.1 hc).1]; exact hc

/-- append(nil, x...): a copy. -/
theorem cApp_copy {P : Program} {e : TypeId} {xb : Option Addr} {m xc sz bytes : Nat} {zero : List Value} {css : List (List Value)} {u : UW} {K : Option Addr → Nat → Nat → UW → Prop} (ht : ti P e sz bytes zero) (hz : zero.length = sz) (hx : SlR u.heap xb m xc sz css)
    (hby : m * bytes ≤ 140737488355328) (h62 : m < 4611686018427387904) (hone : ∀ x ∈ css, ∀ v ∈ x, one v = true)
    (h0 : m = 0 → K none 0 0 u)
    (h1 : ∀ (c b : Nat) (w' : World) (C : List Value), m ≤ c → Below u.heap.size u.toWorld w' → u.heap.size ≤ b → w'.heap[b]? = some (.cells C.toArray e (0, 0)) → C.length = c * sz → OwnS (u.born b w') (some ⟨b, 0, none⟩) m c sz css → K (some ⟨b, 0, none⟩) m c (u.born b w')) :
    cApp P e none 0 0 xb m u K := by
  refine ⟨sz, bytes, zero, [], css.flatten, ht, fun hm => ?_, fun hm => ?_, fun _ => rfl, fun h => absurd rfl h, Nat.le_refl _, by simpa using hby, by simpa using h62, hz, fun v hv => ?_, fun hr => ?_, fun _ => ?_⟩
  · have := hx.len; rw [hm] at this; rw [List.eq_nil_of_length_eq_zero this]; rfl
  · obtain ⟨b, o, rfl, hr⟩ := hx.read hm; exact hr
  · obtain ⟨x, hx1, hx2⟩ := List.mem_flatten.1 hv; exact hone x hx1 v hx2
  · left; exact ⟨by omega, h0 (by omega)⟩
  · intro c b rest w' hc hl hb
    simp only [Nat.zero_add] at hc hl ⊢
    have hfl := flat_len hx.each
    have hlen : (css.flatten ++ rest).length = c * sz := by
      rw [List.length_append, hfl, hx.len, hl, ← Nat.add_mul]; congr 1; omega
    have hb2 : w'.heap[b]? = some (.cells (css.flatten ++ rest).toArray e (0, 0)) := by simpa using hb.at_
    refine h1 c b w' (css.flatten ++ rest) hc hb.below hb.ge hb2 hlen ⟨⟨⟨hx.len, hc, hx.each, fun hn => ⟨b, 0, rfl, ?_⟩⟩, fun x h => by cases h; rfl⟩, fun b' o' h => ?_, fun h => by cases h⟩
    · have hb' : (u.born b w').heap[b]? = some (.cells (css.flatten ++ rest).toArray e (0, 0)) := hb2
      rw [rd_of hb' (by simp only [List.size_toArray, hlen, Nat.zero_add]; exact Nat.mul_le_mul_right _ hc)]
      simp only [List.drop_zero]
      rw [List.take_append_of_le_length (by rw [hfl, hx.len]; exact Nat.le_refl _), List.take_of_length_le (by rw [hfl, hx.len]; exact Nat.le_refl _)]
    · simp only [Option.some.injEq, Addr.mk.injEq] at h
      obtain ⟨rfl, rfl, _⟩ := h
      exact ⟨.inr rfl, _, _, hb2, by simp only [List.size_toArray, hlen]; omega⟩

/-- append(s, x...), s an own row, or one with no room: what comes out is an own row again. -/
theorem cApp_own {P : Program} {e : TypeId} {a xb : Option Addr} {n cap m xc sz bytes : Nat} {zero : List Value} {css dss : List (List Value)} {u : UW} {K : Option Addr → Nat → Nat → UW → Prop} (ht : ti P e sz bytes zero) (hz : zero.length = sz)
    (hs : SlC u.heap a n cap sz css) (hx : SlR u.heap xb m xc sz dss) (hm : m ≠ 0) (hby : (n + m) * bytes ≤ 140737488355328) (h62 : n + m < 4611686018427387904) (hone : ∀ x ∈ dss, ∀ v ∈ x, one v = true)
    (hroom : n + m ≤ cap → ∃ b o C T, a = some ⟨b, o, none⟩ ∧ u.pub b ∧ u.heap[b]? = some (.cells C T (0, 0)) ∧ o + cap * sz ≤ C.size)
    (hin : ∀ (b o : Nat) (C : Array Value) (T : TypeId) (w' : World), n + m ≤ cap → a = some ⟨b, o, none⟩ → u.heap[b]? = some (.cells C T (0, 0)) → Sto u.toWorld w' b (.cells (wrA C (o + n * sz) dss.flatten) T (0, 0)) → OwnS (u.sto w') a (n + m) cap sz (css ++ dss) → K a (n + m) cap (u.sto w'))
    (hnew : ∀ (c b : Nat) (w' : World) (C : List Value), n + m ≤ c → Below u.heap.size u.toWorld w' → u.heap.size ≤ b → w'.heap[b]? = some (.cells C.toArray e (0, 0)) → C.length = c * sz → OwnS (u.born b w') (some ⟨b, 0, none⟩) (n + m) c sz (css ++ dss) → K (some ⟨b, 0, none⟩) (n + m) c (u.born b w')) :
    cApp P e a n cap xb m u K := by
  have hcl := flat_len hs.each
  have hdl := flat_len hx.each
  have heach : ∀ x ∈ css ++ dss, x.length = sz := fun x hx' => by
    rw [List.mem_append] at hx'; exact hx'.elim (hs.each x) (hx.each x)
  refine ⟨sz, bytes, zero, css.flatten, dss.flatten, ht, fun h => absurd h hm, fun _ => ?_, fun hn => ?_, fun hn => ?_, hs.cap, hby, h62, hz, fun v hv => ?_, fun hr => ?_, fun _ => ?_⟩
  · obtain ⟨b, o, rfl, hr⟩ := hx.read hm; exact hr
  · have := hs.len; rw [hn] at this; rw [List.eq_nil_of_length_eq_zero this]; rfl
  · obtain ⟨b, o, rfl, hr⟩ := hs.read hn; exact hr
  · obtain ⟨x, hx1, hx2⟩ := List.mem_flatten.1 hv; exact hone x hx1 v hx2
  · right
    obtain ⟨b, o, C, T, rfl, hp, hb, hC⟩ := hroom hr
    have hle : n * sz + m * sz ≤ cap * sz := by rw [← Nat.add_mul]; exact Nat.mul_le_mul_right _ hr
    refine ⟨hm, C, T, hb, by rw [hdl, hx.len]; omega, hp, fun w' hst => ?_⟩
    have hlw : (wrA C (o + n * sz) dss.flatten).toList = C.toList.take (o + n * sz) ++ dss.flatten ++ C.toList.drop (o + n * sz + dss.flatten.length) := wrA_list _ _ _ (by rw [hdl, hx.len]; omega)
    refine hin b o C T w' hr rfl hb hst ⟨⟨⟨by rw [List.length_append, hs.len, hx.len], hr, heach, fun _ => ⟨b, o, rfl, ?_⟩⟩, hs.spot⟩, fun b' o' h => ?_, fun h => by cases h⟩
    · have hb' : (u.sto w').heap[b]? = some (.cells (wrA C (o + n * sz) dss.flatten) T (0, 0)) := hst.at_
      rw [rd_of hb' (by rw [wrA_size, Nat.add_mul]; omega), hlw]
      have hold : (C.toList.take (o + n * sz)).drop o = css.flatten := by
        by_cases hn : n = 0
        · have h0 : css = [] := List.eq_nil_of_length_eq_zero (by rw [hs.len, hn])
          subst h0
          simp [hn]
        · obtain ⟨b2, o2, e2, hr2⟩ := hs.read hn
          simp only [Option.some.injEq, Addr.mk.injEq] at e2
          obtain ⟨rfl, rfl, _⟩ := e2
          obtain ⟨C2, T2, f2, c1, c2, c3⟩ := rd_block hr2
          rw [hb] at c1
          simp only [Option.some.injEq, Obj.cells.injEq] at c1
          obtain ⟨rfl, _, _⟩ := c1
          rw [c3, List.drop_take]; congr 1; omega
      congr 1
      rw [List.append_assoc, List.drop_append_of_le_length (by simp; omega), hold, List.flatten_append, ← List.append_assoc]
      rw [List.take_append_of_le_length (by simp only [List.length_append, hcl, hdl, hs.len, hx.len, Nat.add_mul]; omega), List.take_of_length_le (by simp only [List.length_append, hcl, hdl, hs.len, hx.len, Nat.add_mul]; omega)]
    · simp only [Option.some.injEq, Addr.mk.injEq] at h
      obtain ⟨rfl, rfl, _⟩ := h
      exact ⟨hp, _, _, hst.at_, by rw [wrA_size]; exact hC⟩
  · intro c b rest w' hc hl hb
    have hfl : (css ++ dss).flatten.length = (n + m) * sz := by rw [flat_len heach, List.length_append, hs.len, hx.len]
    have hlen : (css.flatten ++ dss.flatten ++ rest).length = c * sz := by
      rw [← List.flatten_append, List.length_append, hfl, hl, ← Nat.add_mul]; congr 1; omega
    refine hnew c b w' (css.flatten ++ dss.flatten ++ rest) hc hb.below hb.ge hb.at_ hlen ⟨⟨⟨by rw [List.length_append, hs.len, hx.len], hc, heach, fun hn => ⟨b, 0, rfl, ?_⟩⟩, fun x h => by cases h; rfl⟩, fun b' o' h => ?_, fun h => by cases h⟩
    · have hb' : (u.born b w').heap[b]? = some (.cells (css.flatten ++ dss.flatten ++ rest).toArray e (0, 0)) := hb.at_
      rw [rd_of hb' (by simp only [List.size_toArray, hlen, Nat.zero_add]; exact Nat.mul_le_mul_right _ hc)]
      simp only [List.drop_zero]
      rw [← List.flatten_append, List.take_append_of_le_length (by rw [hfl]; exact Nat.le_refl _), List.take_of_length_le (by rw [hfl]; exact Nat.le_refl _)]
    · simp only [Option.some.injEq, Addr.mk.injEq] at h
      obtain ⟨rfl, rfl, _⟩ := h
      exact ⟨.inr rfl, _, _, hb.at_, by simp only [List.size_toArray, hlen]; omega⟩

/-- int's sum where it does not wrap. -/
theorem wrap_id {x : Int} (h0 : -9223372036854775808 ≤ x) (h1 : x ≤ 9223372036854775807) : IntKind.i64.wrap x = x := IntWalk.i64_in x (by omega)

end Go.Eng
