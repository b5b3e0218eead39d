import Derived.Test.YtdiimonfmdbclaaPvF
/-
  V is sound: append; one operation.
-/
namespace Go.Eng
open Go.RowKit
set_option linter.unusedVariables false

theorem okSz_cases {size sz : Nat} {rows : List (List PV)} (h : okSz size sz rows = true) : sz = size ∨ rows = [] := by
  unfold okSz at h
  cases hb : Nat.beq sz size with
  | true => exact .inl (beq_iff.1 hb)
  | false =>
    rw [hb] at h
    simp only [cond_false] at h
    split at h
    · exact .inr rfl
    · cases h

theorem Ext.sub {Z Z' : Fz} {μ μ' μ'' : Mem} {N : Nat} (h : Ext Z μ N Z' μ') (hs : μ''.sub μ') : Ext Z μ N Z' μ'' :=
  ⟨h.le, h.zs, h.zn, fun b hb => by
    cases hx : μ'' b with
    | none => exact absurd hx hb
    | some o => exact h.mn b (by rw [hs b o hx]; simp), h.lt⟩

theorem Rep.size {Z : Fz} {sz size : Nat} {fl : Fl} {rows : List (List PV)} {w : Value} (h : Rep Z (.list sz fl rows) w) (hs : okSz size sz rows = true) : Rep Z (.list size fl rows) w := by
  rcases okSz_cases hs with rfl | rfl
  · exact h
  · exact h.nilAny

theorem rowsLen {Z : Fz} {sz : Nat} {fl : Fl} {rows : List (List PV)} {w : Value} (h : Rep Z (.list sz fl rows) w) : ∀ r ∈ rows, r.length = sz := by
  cases h; assumption

theorem info_ti {P : Program} {e : TypeId} {size bytes zl : Nat} (h : (P.info? e).map (fun i => (i.size, i.bytes, i.zero.map fun z => z.cells.toList.length)) = some (size, bytes, some zl)) :
    ∃ zero : List Value, (P.info? e).map (fun i => (i.size, i.bytes, i.zero.map fun z => z.cells.toList)) = some (size, bytes, some zero) ∧ zero.length = zl := by
  cases hi : P.info? e with
  | none => rw [hi] at h; cases h
  | some i =>
    rw [hi] at h
    simp only [Option.map_some, Option.some.injEq, Prod.mk.injEq] at h
    obtain ⟨h1, h2, h3⟩ := h
    cases hz : i.zero with
    | none => rw [hz] at h3; cases h3
    | some z =>
      rw [hz] at h3
      simp only [Option.map_some, Option.some.injEq] at h3
      exact ⟨z.cells.toList, by simp [h1, h2, hz], h3⟩

section
variable {E : EnvP} {q : Bool} {fz : List Nat} {o : Oper} {p : PSt} {s : St} {μ : Mem} {u : UW} {KP : PSt → Mem → Prop} {K : St → UW → Prop} {Z : Fz}

theorem appL_sound {P : Program} {e : TypeId} {size bytes : Nat} {zero : List Value} {fl : Fl} {rows new : List (List PV)} {fy : Fl} {xa yb : Option Addr} {n cap m ycap : Nat} {KF : Fl → Mem → Prop} {KV : Value → UW → Prop} (hg : Good Z u μ) (hw : Wf u)
    (ht : (P.info? e).map (fun i => (i.size, i.bytes, i.zero.map fun z => z.cells.toList)) = some (size, bytes, some zero)) (hzl : zero.length = size) (hs0 : size ≠ 0)
    (hx : Rep Z (.list size fl rows) (.slice xa n cap)) (hy : Rep Z (.list size fy new) (.slice yb m ycap)) (h : appL q size bytes fl rows new μ KF)
    (hK : ∀ (Z' : Fz) (μ' : Mem) (fl' : Fl) (v : Value) (u' : UW), Ext Z μ u.heap.size Z' μ' → Good Z' u' μ' → Wf u' → u.heap.size ≤ u'.heap.size → (q = true → Below u.heap.size u.toWorld u'.toWorld) → Rep Z' (.list size fl' (rows ++ new)) v → KF fl' μ' → KV v u') :
    cApp P e xa n cap yb m u fun a n' c' u' => KV (.slice a n' c') u' := by
  obtain ⟨hby, h62, h⟩ := h
  obtain ⟨_, _, _, ex, hxn, hxc, hxs, hxf⟩ := hx.ofList
  cases ex
  obtain ⟨_, _, _, ey, hyn, hyc, hys, hyf⟩ := hy.ofList
  cases ey
  obtain ⟨vx, rx, lx, zx, nx⟩ := list_cells hg hx (fun _ => hs0)
  obtain ⟨vy, ry, ly, zy, ny⟩ := list_cells hg hy (fun _ => hs0)
  rw [hxn, hyn] at hby h62
  have hrow : ∀ r ∈ rows ++ new, r.length = size := fun r hr => (List.mem_append.1 hr).elim (rowsLen hx r) (rowsLen hy r)
  have hnew0 : new = [] ↔ m = 0 := by
    constructor
    · rintro rfl; simpa using hyn.symm
    · intro h0; exact List.eq_nil_of_length_eq_zero (by omega)
  refine ⟨size, bytes, zero, vx, vy, ht, zy, fun hm => ?_, zx, fun hn => ?_, hxc, hby, h62, hzl, fun v hv => (ry.plains v hv).2, fun hroom => ?_, fun hno => ?_⟩
  · obtain ⟨b, o, C, rfl, _, hr, _⟩ := ny hm; exact hr
  · obtain ⟨b, o, C, rfl, _, hr, _⟩ := nx hn; exact hr
  · by_cases hm : m = 0
    · left
      refine ⟨hm, ?_⟩
      have := hnew0.2 hm
      subst this
      exact hK Z μ fl _ u hg.ext hg hw (Nat.le_refl _) (fun _ => Below.refl _ _) (by rw [List.append_nil]; exact hx) h
    · right
      refine ⟨hm, ?_⟩
      have hne : new ≠ [] := fun e => hm (hnew0.1 e)
      have h : appF q size fl rows.length new.length μ KF := by
        unfold appN at h
        cases new with
        | nil => exact absurd rfl hne
        | cons r rs => exact h
      cases fl with
      | sh => exact h.elim
      | nr => have : cap = n := hxf; omega
      | nil => obtain ⟨_, h1, h2⟩ : xa = none ∧ n = 0 ∧ cap = 0 := hxf; omega
      | tip b c =>
        obtain ⟨rfl, rfl⟩ : xa = some ⟨b, 0, none⟩ ∧ cap = c := hxf
        cases q with
        | true => exact h.elim
        | false =>
          obtain ⟨hm0, h⟩ := h
          show cStore b (0 + n * size) vy u _
          rw [Nat.zero_add]
          rw [hxn] at hm0
          have hle : n * size + m * size ≤ cap * size := by rw [← Nat.add_mul]; exact Nat.mul_le_mul_right _ hroom
          refine hg.grow hm0 (by rw [ly]; exact hle) (fun w' C hC hCl g1 g2 hsz hwf => ?_) hw
          have hvx : vx = C := by
            by_cases hn0 : n = 0
            · rw [zx hn0]; exact (List.eq_nil_of_length_eq_zero (by rw [hCl, hn0]; simp)).symm
            · obtain ⟨b', o', C', e1, e2, _, e4⟩ := nx hn0
              simp only [Option.some.injEq, Addr.mk.injEq] at e1
              obtain ⟨rfl, rfl, _⟩ := e1
              rw [hC] at e2; cases e2
              rw [e4, List.drop_zero, ← hCl, List.take_length]
          have emem : (μ.set b none).set b (some (.tip ((rows.length + new.length) * size) (cap * size))) = μ.set b (some (.tip (n * size + vy.length) (cap * size))) := by
            funext x
            by_cases e : x = b
            · subst e; simp [hxn, hyn, ly, Nat.add_mul]
            · rw [Mem.set_ne _ _ e, Mem.set_ne _ _ e, Mem.set_ne _ _ e]
          have hk := h b cap (.inl rfl) (by rw [hxn, hyn]; exact hroom)
          rw [emem] at hk
          refine hK _ _ _ _ _ g2 g1 hwf hsz (fun h => by cases h) ?_ hk
          have hrl := rep_list (Z := Z.set b (C ++ vy)) (sz := size) (fl := .tip b cap) (rows := rows ++ new) (vs := vx ++ vy) (b := b) (o := 0) (c := cap) (C := C ++ vy) hrow (by rw [List.flatten_append]; exact (rx.mono g2.le).append (ry.mono g2.le)) (Fz.set_same _ _ _) (fun k _ => by rw [hvx, Nat.zero_add]) (by rw [List.length_append, hxn, hyn]; exact hroom) ⟨rfl, rfl⟩
          rw [List.length_append, hxn, hyn] at hrl
          exact hrl
  · intro c b rest w' hc hrl hB
    have hm : m ≠ 0 := by omega
    have hne : new ≠ [] := fun e => hm (hnew0.1 e)
    have h : appF q size fl rows.length new.length μ KF := by
      unfold appN at h
      cases new with
      | nil => exact absurd rfl hne
      | cons r rs => exact h
    have hlen : (vx ++ vy).length = (rows.length + new.length) * size := by rw [List.length_append, lx, ly, hxn, hyn, Nat.add_mul]
    obtain ⟨g1, g2, g3⟩ := hg.bornT hB (C := vx ++ vy) (List.prefix_append _ _) (m := c * size) (by
      simp only [List.size_toArray, List.length_append, lx, ly, hrl]
      rw [← Nat.add_mul, ← Nat.add_mul]; exact Nat.mul_le_mul_right _ (by omega))
    rw [hlen] at g1 g2
    have hrep : Rep (Z.set b (vx ++ vy)) (.list size (.tip b c) (rows ++ new)) (.slice (some ⟨b, 0, none⟩) (n + m) c) := by
      have hr := rep_list (Z := Z.set b (vx ++ vy)) (sz := size) (fl := .tip b c) (rows := rows ++ new) (vs := vx ++ vy) (b := b) (o := 0) (c := c) (C := vx ++ vy) hrow (by rw [List.flatten_append]; exact (rx.mono g2.le).append (ry.mono g2.le)) (Fz.set_same _ _ _) (fun k _ => by rw [Nat.zero_add]) (by rw [List.length_append, hxn, hyn]; exact hc) ⟨rfl, rfl⟩
      rw [List.length_append, hxn, hyn] at hr
      exact hr
    cases fl with
    | sh => exact h.elim
    | nr => exact hK _ _ _ _ _ g2 g1 (hw.born hB) hB.below.size (fun _ => hB.below) hrep (h b c g3 (by rw [hxn, hyn]; exact hc))
    | nil => exact hK _ _ _ _ _ g2 g1 (hw.born hB) hB.below.size (fun _ => hB.below) hrep (h b c g3 (by rw [hxn, hyn]; exact hc))
    | tip b0 c0 =>
      cases q with
      | true => exact h.elim
      | false =>
        obtain ⟨_, h⟩ := h
        have hsub : ((μ.set b0 none).set b (some (Ob.tip ((rows.length + new.length) * size) (c * size)))).sub (μ.set b (some (Ob.tip ((rows.length + new.length) * size) (c * size)))) := by
          intro x ob hx
          by_cases e : x = b
          · subst e; rw [Mem.set_same] at hx ⊢; exact hx
          · rw [Mem.set_ne _ _ e] at hx ⊢
            by_cases e' : x = b0
            · subst e'; rw [Mem.set_same] at hx; cases hx
            · rw [Mem.set_ne _ _ e'] at hx; exact hx
        exact hK _ _ _ _ _ (g2.sub hsub) (g1.sub hsub) (hw.born hB) hB.below.size (fun _ => hB.below) hrep (h b c (.inr g3) (by rw [hxn, hyn]; exact hc))

theorem appR_sound {P : Program} {e : TypeId} {size bytes : Nat} {zero : List Value} {y : PV} {xa yb : Option Addr} {n cap m ycap : Nat} {KR : Option Addr → Nat → Nat → Mem → Prop} {KV : Value → UW → Prop} (hg : Good Z u μ) (hw : Wf u)
    (ht : (P.info? e).map (fun i => (i.size, i.bytes, i.zero.map fun z => z.cells.toList)) = some (size, bytes, some zero)) (hzl : zero.length = size) (hs0 : size ≠ 0)
    (hy : Rep Z y (.slice yb m ycap)) (h : appR size bytes e xa n cap y μ KR)
    (hK : ∀ (μ' : Mem) (a' : Option Addr) (n' c' : Nat) (u' : UW), Ext Z μ u.heap.size Z μ' → Good Z u' μ' → Wf u' → u.heap.size ≤ u'.heap.size → KR a' n' c' μ' → KV (.slice a' n' c') u') :
    cApp P e xa n cap yb m u fun a n' c' u' => KV (.slice a n' c') u' := by
  unfold appR newC at h
  obtain ⟨vy, new, hnew, zy, ny, hby, h62, hnc, h, hvl⟩ : ∃ (vy : List Value) (new : List PV), RepM Z new vy ∧ (m = 0 → vy = []) ∧ (m ≠ 0 → withSl yb fun b o => rd u.heap b o (m * size) = some vy) ∧ (n + m) * bytes ≤ 140737488355328 ∧ n + m < 4611686018427387904 ∧ n ≤ cap ∧ ((m = 0 ∧ (n ≠ 0 → ∃ b o old, xa = some ⟨b, o, none⟩ ∧ rdM μ b o (n * size) = some old) ∧ KR xa n cap μ) ∨ (m ≠ 0 ∧ allCell new = true ∧
    (n + m ≤ cap → ∃ b o T cs, xa = some ⟨b, o, none⟩ ∧ μ b = some (.cells T cs) ∧ o + cap * size ≤ cs.length ∧ KR xa (n + m) cap (μ.set b (some (.cells T (wrL cs (o + n * size) new))))) ∧
    (cap < n + m → ∃ old, ((n = 0 ∧ old = []) ∨ ∃ b o, xa = some ⟨b, o, none⟩ ∧ rdM μ b o (n * size) = some old) ∧ ∀ b' c', μ b' = none → n + m ≤ c' → KR (some ⟨b', 0, none⟩) (n + m) c' (μ.set b' (some (.cells e (old ++ new ++ List.replicate ((c' - (n + m)) * size) .poison))))))) ∧ (m ≠ 0 → vy.length = m * size) := by
    split at h
    · rename_i sz fl rows
      obtain ⟨hsz, h⟩ := bif_elim h
      have hy' := hy.size hsz
      obtain ⟨_, _, _, ey, hyn, _⟩ := hy'.ofList
      cases ey
      rw [hyn] at h
      obtain ⟨vy, ry, ly, zy, ny⟩ := list_cells hg hy' (fun _ => hs0)
      exact ⟨vy, _, ry.m, zy, fun hm => by obtain ⟨b, o, C, rfl, _, hr, _⟩ := ny hm; exact hr, h.1, h.2.1, h.2.2.1, h.2.2.2, fun _ => ly⟩
    · rename_i b o m' c'
      have ev := hy.ofRaw.1
      simp only [Value.slice.injEq] at ev
      obtain ⟨rfl, rfl, rfl⟩ := ev
      obtain ⟨cs, hcs, h⟩ := h
      obtain ⟨vs, hv, hm⟩ := rdM_rep hg hcs
      have hvl := rd_len hv
      refine ⟨vs, cs, hm, fun h0 => ?_, fun _ => hv, h.1, h.2.1, h.2.2.1, h.2.2.2, fun _ => hvl⟩
      rw [h0] at hvl
      exact List.eq_nil_of_length_eq_zero (by simpa using hvl)
    · exact h.elim
  rcases h with ⟨hm, hold, hk⟩ | ⟨hm, hcell, hin, hout⟩
  · by_cases hn : n = 0
    · refine ⟨size, bytes, zero, [], vy, ht, zy, ny, fun _ => rfl, fun h => absurd hn h, hnc, hby, h62, hzl, fun v hv => ?_, fun _ => .inl ⟨hm, hK μ xa n cap u hg.ext hg hw (Nat.le_refl _) hk⟩, fun hlt => by omega⟩
      rw [zy hm] at hv; cases hv
    · obtain ⟨b, o, old, rfl, hrd⟩ := hold hn
      obtain ⟨vs, hv, _⟩ := rdM_rep hg hrd
      refine ⟨size, bytes, zero, vs, vy, ht, zy, ny, fun h => absurd h hn, fun _ => hv, hnc, hby, h62, hzl, fun v hv => ?_, fun _ => .inl ⟨hm, hK μ _ n cap u hg.ext hg hw (Nat.le_refl _) hk⟩, fun hlt => by omega⟩
      rw [zy hm] at hv; cases hv
  · have hc := hnew.c hcell
    have hvl := hvl hm
    have hnl : new.length = m * size := by rw [← hc.1, hvl]
    by_cases hroom : n + m ≤ cap
    · obtain ⟨b, o, T, cs, rfl, hmb, hsz, hk⟩ := hin hroom
      obtain ⟨hp, _, A, hA, hcA⟩ := hg.mem b _ hmb
      have hAs : A.size = cs.length := by have := hcA.1; simpa using this
      have hle : n * size + m * size ≤ cap * size := by rw [← Nat.add_mul]; exact Nat.mul_le_mul_right _ hroom
      refine ⟨size, bytes, zero, if n = 0 then [] else (A.toList.drop o).take (n * size), vy, ht, zy, ny, fun h => by simp [h], fun h => ?_, hnc, hby, h62, hzl, fun v hv => (hc.plains v hv).2, fun _ => .inr ⟨hm, ?_⟩, fun hlt => by omega⟩
      · rw [if_neg h]; exact rd_of hA (by omega)
      · exact hg.store hmb (by rw [hnl]; omega) hnew fun w' hs g1 g2 => hK _ _ _ _ _ g2 g1 (hw.sto hs) hs.size hk
    · obtain ⟨old, hold, hk⟩ := hout (by omega)
      have fin : ∀ vs : List Value, RepM Z old vs → vs.length = n * size → (n = 0 → vs = []) → (n ≠ 0 → withSl xa fun b o => rd u.heap b o (n * size) = some vs) → cApp P e xa n cap yb m u fun a n' c' u' => KV (.slice a n' c') u' := by
        intro vs hvs hvsl h0 h1
        refine ⟨size, bytes, zero, vs, vy, ht, zy, ny, h0, h1, hnc, hby, h62, hzl, fun v hv => (hc.plains v hv).2, fun h => absurd h hroom, fun _ c b rest w' hcc hrl hB => ?_⟩
        have hrest : RepM Z (List.replicate ((c - (n + m)) * size) .poison) rest := ⟨by simp [hrl], fun i p v hp _ => by
          rw [List.getElem?_replicate] at hp
          split at hp
          · cases hp; exact .poison _
          · cases hp⟩
        obtain ⟨g1, g2, g3⟩ := hg.born hB (cs := old ++ new ++ List.replicate ((c - (n + m)) * size) .poison) ((hvs.append hnew).append hrest)
        exact hK _ _ _ _ _ g2 g1 (hw.born hB) hB.below.size (hk b c g3 hcc)
      rcases hold with ⟨hn, rfl⟩ | ⟨b, o, rfl, hrd⟩
      · exact fin [] (RepM.nil Z) (by simp [hn]) (fun _ => rfl) (fun h => absurd hn h)
      · obtain ⟨vs, hv, hm'⟩ := rdM_rep hg hrd
        have hl := rd_len hv
        exact fin vs hm' hl (fun h0 => List.eq_nil_of_length_eq_zero (by rw [hl, h0]; simp)) (fun _ => hv)

theorem app_sound {P : Program} {e : TypeId} {x y : PV} {xa yb : Option Addr} {n cap m ycap : Nat} {KP : PV → Mem → Prop} {KV : Value → UW → Prop} (hg : Good Z u μ) (hw : Wf u) (hx : Rep Z x (.slice xa n cap)) (hy : Rep Z y (.slice yb m ycap)) (h : cAppP P q e x y μ KP) (hK : ContV q Z μ u KP KV) :
    cApp P e xa n cap yb m u fun a n' c' u' => KV (.slice a n' c') u' := by
  unfold cAppP at h
  split at h
  · rename_i size bytes zl hti
    obtain ⟨hc, h⟩ := bif_elim h
    simp only [Bool.and_eq_true, beq_iff, Bool.not_eq_true'] at hc
    obtain ⟨zero, ht, hzl⟩ := info_ti hti
    have hs0 : size ≠ 0 := fun e => by
      have := hc.2; rw [e] at this; cases this
    split at h
    · rename_i sz fl rows sz' fl' new
      obtain ⟨hcs, h⟩ := bif_elim h
      simp only [Bool.and_eq_true] at hcs
      exact appL_sound hg hw ht (hzl.trans hc.1) hs0 (hx.size hcs.1) (hy.size hcs.2) h fun Z' μ' fl' v u' e1 e2 e3 e4 e5 e6 e7 => hK Z' μ' _ v u' e1 e2 e3 e4 e5 e6 e7
    · rename_i a n' c'
      have ev := hx.ofRaw.1
      simp only [Value.slice.injEq] at ev
      obtain ⟨rfl, rfl, rfl⟩ := ev
      cases q with
      | true => exact h.elim
      | false =>
        simp only [cond_false] at h
        exact appR_sound hg hw ht (hzl.trans hc.1) hs0 hy h fun μ' a' n' c' u' e1 e2 e3 e4 e5 => hK Z μ' _ _ u' e1 e2 e3 e4 (fun h => by cases h) (.raw _ rfl rfl) e5
    · exact h.elim
  · exact h.elim

theorem toRaw_rep {r : Bool} {x : PV} {v : Value} (h : Rep Z x v) : Rep Z (toRaw r x) v := by
  unfold toRaw
  cases r with
  | false => exact h
  | true =>
    simp only [cond_true]
    split
    · obtain ⟨a, n, c, rfl, _, _, _, hf⟩ := h.ofList
      obtain ⟨rfl, rfl, rfl⟩ := hf
      exact .raw _ rfl rfl
    · exact h

theorem toRaws_rep {r : Bool} {cs : List PV} {vs : List Value} (h : RepC Z cs vs) : RepC Z (cs.map (toRaw r)) vs :=
  ⟨by rw [List.length_map]; exact h.1, fun i p v hp hv => by
    rw [List.getElem?_map] at hp
    cases hc : cs[i]? with
    | none => rw [hc] at hp; cases hp
    | some c =>
      rw [hc] at hp
      simp only [Option.map_some, Option.some.injEq] at hp
      subst hp
      have := h.2 i c v hc hv
      refine ⟨?_, toRaw_rep this.2⟩
      unfold toRaw
      cases r with
      | false => exact this.1
      | true =>
        simp only [cond_true]
        split
        · rfl
        · exact this.1⟩

theorem exR_sound {P : Program} {r : Bool} {t : TypeId} {F : PV → Mem → Prop} {G : Value → Prop} {pp : PV} {v : Value} {μ' : Mem} {Z' : Fz} (hp : Rep Z' pp v) (h : exRP P r t fun p' => pp = p' ∧ F p' μ') (hG : F pp μ' → G v) : exR P t fun v' => v = v' ∧ G v' := by
  obtain ⟨p', ⟨rfl, hF⟩, hex⟩ := exRP_elim (Z := Z') h
  exact hex hp ⟨rfl, hG hF⟩

theorem wf_cont {q : Bool} {KP : PSt → Mem → Prop} {K : St → UW → Prop} (hr : Rel2 Z p s) (hK : Cont q Z μ u KP K) (r : Bool) (t : TypeId) : ContV q Z μ u (fun v μ' => exRP E.P r t fun v' => v = v' ∧ KP (finP o p v') μ') (fun v u' => exR E.er.P t fun v' => v = v' ∧ K (fin o s v') u') :=
  fun Z' μ' pp v u' e1 e2 e3 e4 e5 e6 e7 => exR_sound (F := fun p' μ' => KP (finP o p p') μ') (G := fun v' => K (fin o s v') u') e6 e7 fun hk => hK Z' _ μ' _ u' ((hr.mono e1.le).fin o e6) e2 e3 e1 e4 e5 hk

theorem V1_sound (hr : Rel2 Z p s) (hg : Good Z u μ) (hw : Wf u) (hK : Cont q Z μ u KP K) (h : V1 E q fz o p μ KP) : W1 E.er fz o s u K := by
  have hK0 : ∀ p' s', Rel2 Z p' s' → KP p' μ → K s' u := fun p' s' h1 h2 => hK Z p' μ s' u h1 hg hw hg.ext (Nat.le_refl _) (fun _ => Below.refl _ _) h2
  by_cases htk : takeable o = true
  · cases hl : isLoadO o with
    | false => exact V1_pure hr htk hl hK0 h
    | true => exact load_sound hr hg (Fz.le.refl Z) (.inr hg) hl hK0 h
  · unfold takeable at htk
    unfold V1 at h
    unfold W1
    simp only at h ⊢
    cases hop : o.op <;> simp only [hop] at h htk ⊢ <;> first | (exact absurd trivial htk) | (exact h.elim) | skip
    case alloc t =>
      cases hz : (E.P.info? t).bind (·.zero) with
      | none => rw [hz] at h; exact h.elim
      | some z =>
        rw [hz] at h
        have hz' : (E.er.P.info? t).bind (·.zero) = some z := hz
        rw [hz']
        obtain ⟨hok, h⟩ := bif_elim h
        have hrep : Rep Z (zeroP E.P t z) z := (ofV_rep Z z).nrmT
        exact newB_sound hr hg hw hK (toRaws_rep (hrep.cells hok)) h
    case box t x =>
      obtain ⟨hok, h⟩ := bif_elim h
      have hx := hr.ev x
      rw [hx.plain hok]
      simp only [cond_true]
      have hrep := hx.nrmT (P := E.P) (t := t)
      exact newB_sound hr hg hw hK (hrep.cells (by rw [nrmT_ok]; exact hok)) h
    case buildSlice t len ps =>
      obtain ⟨hc, h⟩ := bif_elim h
      simp only [Bool.and_eq_true] at hc
      have hpl : (ps.toList.all fun p => plain (ev s.σ p.2)) = true := by
        rw [List.all_eq_true]
        exact fun x hx => (hr.ev x.2).plain (List.all_eq_true.1 hc.1 x hx)
      rw [hpl, hc.2]
      simp only [Bool.and_self, cond_true]
      cases he : elemT E.P t with
      | none => rw [he] at h; exact h.elim
      | some e =>
        rw [he] at h
        have he' : elemT E.er.P t = some e := he
        rw [he']
        simp only at h ⊢
        split at h
        · rename_i rows hb
          obtain ⟨w, hwl, hrep, hl, hrl⟩ := bldL_rep (Z := Z) (vs := ps.toList.map fun p => (p.1, ev s.σ p.2)) (by simp) (fun i x y a b => by
            rw [List.getElem?_map] at a b
            cases hi : ps.toList[i]? with
            | none => rw [hi] at a; cases a
            | some z =>
              rw [hi] at a b
              simp only [Option.map_some, Option.some.injEq] at a b
              subst a; subst b
              exact ⟨rfl, by rw [nrmT_ok]; exact List.all_eq_true.1 hc.1 z (List.mem_of_getElem? hi), (hr.ev z.2).nrmT⟩) hb
          have hwl' : bldL (E.er.P.cellsOf e) 0 (ps.toList.map fun p => (p.1, ev s.σ p.2)) = some w := hwl
          rw [hwl']
          obtain ⟨hc2, h⟩ := bif_elim h
          have hc2' : (Nat.ble w.length 65536 && ((E.er.P.info? e).bind (·.zero)).isSome && !Nat.beq (E.er.P.cellsOf e) 0) = true := by rw [hrep.1]; exact hc2
          simp only [hc2', cond_true]
          intro b w' hB
          cases hwr : wrtO E o with
          | true =>
            rw [hwr] at h
            obtain ⟨g1, g2, g3⟩ := hg.born hB (cs := rows.flatten) hrep.m
            exact hK Z _ _ _ _ (hr.fin o (.raw _ rfl rfl)) g1 (hw.born hB) g2 hB.below.size (fun _ => hB.below) (h b g3)
          | false =>
            rw [hwr] at h
            obtain ⟨g1, g2⟩ := hg.bornF hB
            refine hK _ _ μ _ _ ((hr.mono g2.le).fin o ?_) g1 (hw.born hB) g2 hB.below.size (fun _ => hB.below) h
            have hlen : rows.length = len := by
              have := beq_iff.1 hc.2; rw [hl, ← this]; simp
            have := rep_list (Z := Z.set b w.toArray.toList) (sz := E.P.cellsOf e) (fl := .nr) (rows := rows) (vs := w) (b := b) (o := 0) (c := rows.length) (C := w) hrl (hrep.mono g2.le) (Fz.set_same _ _ _) (fun k _ => by rw [Nat.zero_add]) (Nat.le_refl _) rfl
            rw [hlen] at this
            exact this
        · exact h.elim
    case store t x y =>
      obtain ⟨hc, h⟩ := bif_elim h
      simp only [Bool.and_eq_true, beq_iff] at hc
      have hy := hr.ev y
      have hx := hr.ev x
      have hrep := (hy.nrmT (P := E.P) (t := t)).cells (by rw [nrmT_ok]; exact hc.1.1)
      have hsz : (ev s.σ y).cells.size = (nrmT E.P t (evP p.σ y)).cells.length := by have := hrep.1; simpa using this
      have hcc : (plain (ev s.σ y) && Nat.beq (ev s.σ y).cells.size (E.er.P.cellsOf t) && allPlain (ev s.σ y).cells.toList && (E.er.P.info? t).isSome) = true := by
        have h2 : (E.er.P.info? t).isSome = true := hc.2
        rw [hy.plain hc.1.1, hsz, hc.1.2, allPlain_of hrep, h2]
        have : Nat.beq (E.P.cellsOf t) (E.er.P.cellsOf t) = true := Nat.beq_refl _
        rw [this]; rfl
      rw [hcc]
      simp only [cond_true]
      split at h
      · rename_i k off he
        rw [he] at hx; rw [hx.ofBox]
        simp only
        rw [← hr.D]
        split at h
        · rename_i m hm
          rw [hm]
          simp only
          obtain ⟨hb, h⟩ := bif_elim h
          rw [hsz, hb]
          simp only [cond_true]
          exact hK0 { p with σ := putP (wrGP p.σ k off (nrmT E.P t (evP p.σ y)).cells) o.dst (.tup []) } _ ⟨rfl, RepF.put (RepF.wrG hr.slot hrep.m) (Reps.toTup (vs := []) (Reps.nil Z))⟩ h
        · exact h.elim
      · cases q with
        | true => exact h.elim
        | false =>
          simp only [cond_false] at h
          unfold withPtrP at h
          split at h
          · rename_i b off he
            rw [he] at hx
            rw [hx.ofRaw.1]
            show withPtr (.pointer (some ⟨b, off, none⟩)) _
            unfold withPtr
            simp only
            obtain ⟨T, cs, hm, hl, h⟩ := h
            exact hg.store hm hl hrep.m fun w' hs g1 g2 => hK Z _ _ _ _ (hr.fin o (Reps.toTup (vs := []) (Reps.nil Z))) g1 (hw.sto hs) g2 hs.size (fun h => by cases h) h
          · exact h.elim
    case makeSlice t x y =>
      have hx := hr.ev x
      have hy := hr.ev y
      split at h
      · rename_i e k i k' j hu he hj
        have hu' : E.er.P.underlying t = some (.slice e) := hu
        rw [he] at hx; rw [hj] at hy
        rw [hu', hx.ofRaw.1, hy.ofRaw.1]
        simp only
        cases hi : E.P.info? e with
        | none => rw [hi] at h; exact h.elim
        | some inf =>
          rw [hi] at h
          have hi' : E.er.P.info? e = some inf := hi
          rw [hi']
          simp only [Option.map_some] at h ⊢
          cases hz : inf.zero with
          | none => rw [hz] at h; exact h.elim
          | some z =>
            rw [hz] at h
            simp only [Option.map_some] at h ⊢
            obtain ⟨hc, g1, g2, g3, g4, h⟩ := bif_elim h
            simp only [Bool.and_eq_true, beq_iff] at hc
            have hrep : Rep Z (zeroP E.P e z) z := (ofV_rep Z z).nrmT
            have hrc : RepC Z (zeroP E.P e z).cells z.cells.toList := by
              cases hk : (zeroP E.P e z).ok with
              | true => exact hrep.cells hk
              | false =>
                exfalso
                have h3 := hc.2
                cases hzp : zeroP E.P e z <;> rw [hzp] at hk h3 <;> simp [PV.ok, PV.cell, PV.cells, allCell] at hk h3
            have hc' : (Nat.beq z.cells.toList.length inf.size && !Nat.beq inf.size 0) = true := by
              rw [hrc.1, hc.1.1, hc.1.2]; simp
            rw [hc']
            simp only [cond_true]
            refine ⟨g1, g2, g3, g4, fun b w' hB => ?_⟩
            have hrr : ∀ n : Nat, RepM Z (List.replicate n (zeroP E.P e z).cells).flatten (List.replicate n z.cells.toList).flatten := by
              intro n
              induction n with
              | zero => exact RepM.nil Z
              | succ n ih => rw [List.replicate_succ, List.replicate_succ, List.flatten_cons, List.flatten_cons]; exact hrc.m.append ih
            obtain ⟨d1, d2, d3⟩ := hg.born hB (cs := (List.replicate j.toNat (zeroP E.P e z).cells).flatten) (hrr _)
            exact hK Z _ _ _ _ (hr.fin o (.raw _ rfl rfl)) d1 (hw.born hB) d2 hB.below.size (fun _ => hB.below) (h b d3)
      · exact h.elim
    case call c =>
      obtain ⟨cal, args, ats⟩ := c
      cases cal with
      | builtin b =>
        simp only at h htk ⊢
        unfold V1b at h
        unfold W1b
        generalize args.toList = al at h ⊢
        generalize ats.toList = tl at h ⊢
        cases b <;> first | (exact absurd rfl htk) | (exact h.elim) | skip
        match al, tl, h with
        | [x, y], [t, t'], h =>
          simp only at h ⊢
          have hx := toRaw_rep (r := rawO E o) (hr.ev x)
          have hy := hr.ev y
          split at h
          · rename_i e e' hu hu2
            have hu' : E.er.P.underlying t = some (.slice e) := hu
            have hu2' : E.er.P.underlying t' = some (.slice e') := hu2
            rw [hu', hu2']
            have sl : ∀ {pp : PV} {v : Value}, Rep Z pp v → (∃ sz fl rows, pp = .list sz fl rows) ∨ (∃ a n c, pp = .raw (.slice a n c)) → ∃ a n c, v = .slice a n c := by
              rintro pp v hv (⟨sz, fl, rows, rfl⟩ | ⟨a, n, c, rfl⟩)
              · obtain ⟨a, n, c, rfl, _⟩ := hv.ofList; exact ⟨a, n, c, rfl⟩
              · exact ⟨a, n, c, hv.ofRaw.1⟩
            have hsh : ((∃ sz fl rows, toRaw (rawO E o) (evP p.σ x) = .list sz fl rows) ∨ (∃ a n c, toRaw (rawO E o) (evP p.σ x) = .raw (.slice a n c))) ∧ ((∃ sz fl rows, evP p.σ y = .list sz fl rows) ∨ (∃ a n c, evP p.σ y = .raw (.slice a n c))) := by
              unfold cAppP at h
              split at h
              · obtain ⟨_, h⟩ := bif_elim h
                split at h
                · rename_i e1 e2; exact ⟨.inl ⟨_, _, _, e1⟩, .inl ⟨_, _, _, e2⟩⟩
                · rename_i e1
                  refine ⟨.inr ⟨_, _, _, e1⟩, ?_⟩
                  cases q with
                  | true => exact h.elim
                  | false =>
                    simp only [cond_false] at h
                    unfold appR newC at h
                    split at h
                    · rename_i e2; exact .inl ⟨_, _, _, e2⟩
                    · rename_i e2; exact .inr ⟨_, _, _, e2⟩
                    · exact h.elim
                · exact h.elim
              · exact h.elim
            obtain ⟨xa, n, cap, hxv⟩ := sl hx hsh.1
            obtain ⟨yb, m, yc, hyv⟩ := sl hy hsh.2
            rw [hxv, hyv]
            rw [hxv] at hx; rw [hyv] at hy
            simp only
            exact app_sound (KV := fun v u' => K (fin o s v) u') hg hw hx hy h fun Z' μ' pp v u' e1 e2 e3 e4 e5 e6 e7 => hK Z' _ μ' _ u' ((hr.mono e1.le).fin o e6) e2 e3 e1 e4 e5 e7
          · exact h.elim
        | [], _, h => exact h.elim
        | [_], _, h => exact h.elim
        | [_, _], [], h => exact h.elim
        | [_, _], [_], h => exact h.elim
        | [_, _], _ :: _ :: _ :: _, h => exact h.elim
        | _ :: _ :: _ :: _, _, h => exact h.elim
      | value f =>
        simp only at h ⊢
        obtain ⟨hc, h⟩ := bif_elim h
        rw [all_plain_ev hr hc]
        simp only [cond_true]
        exact CallD.v hg hw (hr.ev f) (allOk_ev hr hc).argsP h (wf_cont (E := E) hr hK (rawO E o) o.type)
      | invoke x name =>
        simp only at h ⊢
        obtain ⟨hc, h⟩ := bif_elim h
        rw [all_plain_ev hr hc]
        simp only [cond_true]
        have hx := hr.ev x
        split at h
        · rename_i t pp he
          rw [he] at hx
          cases hvx : ev s.σ x with
          | iface t' v =>
            rw [hvx] at hx
            cases hx with
            | iface _ _ _ hk hv =>
              simp only
              split at h
              · rename_i g r' hm
                obtain ⟨hall, h⟩ := h
                have hall' : pv E.er.P (method (E.er.P.types.size + Made.depth) t v name) = some (g, v) := hall v
                rw [hall']
                simp only
                have := CallD.v (fv := .func (.func g) #[] #[]) (vs := v :: args.toList.map (ev s.σ)) hg hw (Reps.toFn (fv := []) (cv := []) (Reps.nil Z) (Reps.nil Z)) (Reps.cons (by rw [wk2_ok]; exact hk) hv.wk2 (allOk_ev hr hc).argsP) h (wf_cont (E := E) hr hK (rawO E o) o.type)
                have h2 : (bif callable E.P g then CallF E.P g ((#[] : Array Value).toList ++ (v :: args.toList.map (ev s.σ)) ++ (#[] : Array Value).toList).toArray u (fun v u' => exR E.er.P o.type fun v' => v = v' ∧ K (fin o s v') u') else False) := this
                obtain ⟨hcl, h3⟩ := bif_elim h2
                have hcl' : callable E.er.P g = true := hcl
                rw [hcl']
                simp only [cond_true]
                show CallF E.P g _ u _
                simpa using h3
              · exact h.elim
          | _ => rw [hvx] at hx; cases hx
        · exact h.elim

end
end Go.Eng
