import Derived.Test.YtdiimonfmdbclaaPvB
/-
  Plain values and the engine's: states held against each other.
-/
namespace Go.Eng
open Go.RowKit
set_option linter.unusedVariables false

theorem RepM.nil (Z : Fz) : RepM Z [] [] := ⟨rfl, by simp⟩
theorem RepM.cons {Z : Fz} {p : PV} {ps : List PV} {v : Value} {vs : List Value} (h : Rep Z p v) (hs : RepM Z ps vs) : RepM Z (p :: ps) (v :: vs) :=
  ⟨by simp [hs.1], fun i q w a b => by
    cases i with
    | zero => simp only [List.getElem?_cons_zero, Option.some.injEq] at a b; subst a; subst b; exact h
    | succ i => simp only [List.getElem?_cons_succ] at a b; exact hs.2 i q w a b⟩
theorem RepM.inv {Z : Fz} {p : PV} {ps : List PV} {vs : List Value} (h : RepM Z (p :: ps) vs) : ∃ v vs', vs = v :: vs' ∧ Rep Z p v ∧ RepM Z ps vs' := by
  obtain ⟨hl, h⟩ := h
  cases vs with
  | nil => simp at hl
  | cons v vs => exact ⟨v, vs, rfl, h 0 p v rfl rfl, by simpa using hl, fun i q w a b => h (i + 1) q w (by simpa using a) (by simpa using b)⟩
theorem RepM.inv0 {Z : Fz} {vs : List Value} (h : RepM Z [] vs) : vs = [] := List.eq_nil_of_length_eq_zero h.1
theorem RepC.m {Z : Fz} {ps : List PV} {vs : List Value} (h : RepC Z ps vs) : RepM Z ps vs := ⟨h.1, fun i p v a b => (h.2 i p v a b).2⟩
theorem Reps.m {Z : Fz} {ps : List PV} {vs : List Value} (h : Reps Z ps vs) : RepM Z ps vs := ⟨h.1, fun i p v a b => (h.2 i p v a b).2⟩
theorem RepM.c {Z : Fz} {ps : List PV} {vs : List Value} (h : RepM Z ps vs) (hc : allCell ps = true) : RepC Z ps vs :=
  ⟨h.1, fun i p v a b => ⟨List.all_eq_true.1 hc p (List.mem_of_getElem? a), h.2 i p v a b⟩⟩
theorem RepM.s {Z : Fz} {ps : List PV} {vs : List Value} (h : RepM Z ps vs) (hc : allOk ps = true) : Reps Z ps vs :=
  ⟨h.1, fun i p v a b => ⟨List.all_eq_true.1 hc p (List.mem_of_getElem? a), h.2 i p v a b⟩⟩
theorem RepM.mono {Z Z' : Fz} (hz : Z.le Z') {ps : List PV} {vs : List Value} (h : RepM Z ps vs) : RepM Z' ps vs := ⟨h.1, fun i p v a b => (h.2 i p v a b).mono hz⟩
theorem RepC.allCell {Z : Fz} {ps : List PV} {vs : List Value} (h : RepC Z ps vs) : allCell ps = true := by
  refine List.all_eq_true.2 fun p hp => ?_
  obtain ⟨i, hi⟩ := List.mem_iff_getElem?.1 hp
  obtain ⟨v, _, hc, _⟩ := h.get hi
  exact hc

theorem RepC.toAgg {Z : Fz} {ps : List PV} {vs : List Value} (h : RepC Z ps vs) : Rep Z (.agg ps) (.agg vs.toArray) :=
  .agg ps vs h.1 (fun p hp => List.all_eq_true.1 h.allCell p hp) fun i p v a b => (h.2 i p v a b).2

theorem Reps.toTup {Z : Fz} {ps : List PV} {vs : List Value} (h : Reps Z ps vs) : Rep Z (.tup ps) (.tuple vs.toArray) := by
  refine .tup ps vs h.1 (fun p hp => ?_) fun i p v a b => (h.2 i p v a b).2
  obtain ⟨i, hi⟩ := List.mem_iff_getElem?.1 hp
  obtain ⟨v, _, hc, _⟩ := h.get hi
  exact hc

theorem Rep.ofAgg {Z : Fz} {ps : List PV} {v : Value} (h : Rep Z (.agg ps) v) : ∃ vs : List Value, v = .agg vs.toArray ∧ RepC Z ps vs := by
  cases h with
  | agg cs vs hl hk h => exact ⟨vs, rfl, hl, fun i p v a b => ⟨hk p (List.mem_of_getElem? a), h i p v a b⟩⟩

theorem Rep.ofTup {Z : Fz} {ps : List PV} {v : Value} (h : Rep Z (.tup ps) v) : ∃ vs : List Value, v = .tuple vs.toArray ∧ Reps Z ps vs := by
  cases h with
  | tup cs vs hl hk h => exact ⟨vs, rfl, hl, fun i p v a b => ⟨hk p (List.mem_of_getElem? a), h i p v a b⟩⟩

theorem Rep.ofRaw {Z : Fz} {v w : Value} (h : Rep Z (.raw v) w) : w = v ∧ Eng.plain v = true ∧ one v = true := by
  cases h; exact ⟨rfl, by assumption, by assumption⟩

theorem Rep.ofBox {Z : Fz} {k o : Nat} {w : Value} (h : Rep Z (.box k o) w) : w = fake k o := by cases h; rfl

theorem Rep.ofFn {Z : Fz} {f : Fn} {a b : List PV} {w : Value} (h : Rep Z (.fn f a b) w) : ∃ fv cv : List Value, w = .func f fv.toArray cv.toArray ∧ Reps Z a fv ∧ Reps Z b cv := by
  cases h with
  | fn f first caps fv cv h1 h2 kf kc hf hc => exact ⟨fv, cv, rfl, ⟨h1, fun i p v a b => ⟨kf p (List.mem_of_getElem? a), hf i p v a b⟩⟩, ⟨h2, fun i p v a b => ⟨kc p (List.mem_of_getElem? a), hc i p v a b⟩⟩⟩

theorem Reps.toFn {Z : Fz} {f : Fn} {a b : List PV} {fv cv : List Value} (h : Reps Z a fv) (k : Reps Z b cv) : Rep Z (.fn f a b) (.func f fv.toArray cv.toArray) := by
  refine .fn f a b fv cv h.1 k.1 (fun p hp => ?_) (fun p hp => ?_) (fun i p v a b => (h.2 i p v a b).2) (fun i p v a b => (k.2 i p v a b).2)
  · obtain ⟨i, hi⟩ := List.mem_iff_getElem?.1 hp
    obtain ⟨v, _, hc, _⟩ := h.get hi; exact hc
  · obtain ⟨i, hi⟩ := List.mem_iff_getElem?.1 hp
    obtain ⟨v, _, hc, _⟩ := k.get hi; exact hc

theorem Rep.ofList {Z : Fz} {sz : Nat} {fl : Fl} {rows : List (List PV)} {w : Value} (h : Rep Z (.list sz fl rows) w) : ∃ a n c, w = .slice a n c ∧ rows.length = n ∧ n ≤ c ∧ (c = 0 ∨ noSpot a) ∧ FlOk fl a n c := by
  cases h; exact ⟨_, _, _, rfl, by assumption, by assumption, by assumption, by assumption⟩

theorem Rep.nilAny {Z : Fz} {sz sz' : Nat} {fl : Fl} {w : Value} (h : Rep Z (.list sz fl []) w) : Rep Z (.list sz' fl []) w := by
  cases h with
  | list _ _ _ a n c b o C g hn hc hs hr ha hg hk hp hf =>
    simp only [List.length_nil] at hn
    subst hn
    exact .list sz' fl [] a 0 c b o C g rfl hc hs (by simp) (fun h => absurd rfl h) (fun i j hi => absurd hi (Nat.not_lt_zero i)) (by simp) (by simp) hf

theorem Rep.flag {Z : Fz} {sz : Nat} {fl fl' : Fl} {rows : List (List PV)} {w : Value} (h : Rep Z (.list sz fl rows) w) (hf' : ∀ a n c, w = .slice a n c → FlOk fl' a n c) : Rep Z (.list sz fl' rows) w := by
  cases h with
  | list _ _ _ a n c b o C g hn hc hs hr ha hg hk hp hf => exact .list sz fl' rows a n c b o C g hn hc hs hr ha hg hk hp (hf' a n c rfl)

theorem Rep.sh {Z : Fz} {sz : Nat} {fl : Fl} {rows : List (List PV)} {w : Value} (h : Rep Z (.list sz fl rows) w) : Rep Z (.list sz .sh rows) w := h.flag fun _ _ _ _ => trivial

theorem Rep.wk1 {Z : Fz} {p : PV} {w : Value} (h : Rep Z p w) : Rep Z (wk1 p) w := by
  cases p <;> first | exact h.sh | exact h

theorem wk1_cell {p : PV} : (wk1 p).cell = p.cell := by cases p <;> rfl
theorem wk1_ok {p : PV} : (wk1 p).ok = p.ok := by cases p <;> rfl

theorem RepC.wk {Z : Fz} {ps : List PV} {vs : List Value} (h : RepC Z ps vs) : RepC Z (ps.map Eng.wk1) vs :=
  ⟨by simp [h.1], fun i p v a b => by
    rw [List.getElem?_map] at a
    cases hq : ps[i]? with
    | none => simp [hq] at a
    | some q =>
      simp only [hq, Option.map_some, Option.some.injEq] at a
      subst a
      exact ⟨by rw [wk1_cell]; exact (h.2 i q v hq b).1, (h.2 i q v hq b).2.wk1⟩⟩

theorem Rep.wk2 {Z : Fz} {p : PV} {w : Value} (h : Rep Z p w) : Rep Z (wk2 p) w := by
  cases p <;> try exact h
  obtain ⟨vs, rfl, hc⟩ := h.ofAgg
  exact hc.wk.toAgg

theorem wk2_ok {p : PV} : (wk2 p).ok = p.ok := by cases p <;> rfl

theorem Rep.wk {Z : Fz} {p : PV} {w : Value} (h : Rep Z p w) : Rep Z (wk p) w := by
  cases p with
  | agg cs => exact h.wk2
  | tup vs =>
    obtain ⟨ws, rfl, hs⟩ := h.ofTup
    refine Reps.toTup ⟨by simp [hs.1], fun i p v a b => ?_⟩
    rw [List.getElem?_map] at a
    cases hq : vs[i]? with
    | none => simp [hq] at a
    | some q =>
      simp only [hq, Option.map_some, Option.some.injEq] at a
      subst a
      have := hs.2 i q v hq b
      exact ⟨by rw [wk2_ok, wk1_ok]; exact this.1, this.2.wk1.wk2⟩
  | _ => exact h.wk1

theorem wk_ok {p : PV} : (Eng.wk p).ok = p.ok := by cases p <;> rfl

theorem Rep.nrm {Z : Fz} {sz : Nat} {p : PV} {w : Value} (h : Rep Z p w) : Rep Z (nrm sz p) w := by
  unfold Eng.nrm; split
  · exact h.nilAny
  · exact h
theorem nrm_cell {sz : Nat} {p : PV} : (nrm sz p).cell = p.cell := by unfold nrm; split <;> rfl

theorem RepC.nrms {Z : Fz} : ∀ {ks : List KV} {ps : List PV} {vs : List Value}, RepC Z ps vs → RepC Z (nrms ks ps) vs
  | [], ps, vs, h => by simpa [Eng.nrms] using h
  | k :: ks, [], vs, h => by cases k <;> simpa [Eng.nrms] using h
  | .list sz :: ks, p :: ps, vs, h => by
    obtain ⟨v, vs', rfl, h1, h2, h3⟩ := h.inv
    exact RepC.cons (by rw [nrm_cell]; exact h1) h2.nrm h3.nrms
  | .raw k :: ks, p :: ps, vs, h => by
    obtain ⟨v, vs', rfl, h1, h2, h3⟩ := h.inv
    exact RepC.cons h1 h2 h3.nrms
  | .fn :: ks, p :: ps, vs, h => by
    obtain ⟨v, vs', rfl, h1, h2, h3⟩ := h.inv
    exact RepC.cons h1 h2 h3.nrms

theorem Rep.nrmT {Z : Fz} {P : Program} {t : TypeId} {p : PV} {w : Value} (h : Rep Z p w) : Rep Z (nrmT P t p) w := by
  unfold Eng.nrmT
  split
  · split
    · obtain ⟨vs, rfl, hc⟩ := h.ofAgg; exact hc.nrms.toAgg
    · split
      · exact h.nilAny
      · exact h
    · exact h
  · exact h

theorem nrmT_ok {P : Program} {t : TypeId} {p : PV} : (nrmT P t p).ok = p.ok := by
  unfold nrmT
  split
  · split
    · rfl
    · split <;> rfl
    · rfl
  · rfl

theorem Rep.argP {Z : Fz} {P : Program} {t : TypeId} {p : PV} {w : Value} (h : Rep Z p w) : Rep Z (argP P t p) w := h.nrmT.wk2
theorem argP_ok {P : Program} {t : TypeId} {p : PV} : (argP P t p).ok = p.ok := by unfold argP; rw [wk2_ok, nrmT_ok]

theorem Reps.argsP {Z : Fz} {P : Program} : ∀ {ts : List TypeId} {ps : List PV} {vs : List Value}, Reps Z ps vs → Reps Z (argsP P ts ps) vs
  | [], ps, vs, h => by simpa [Eng.argsP] using h
  | t :: ts, [], vs, h => by simpa [Eng.argsP] using h
  | t :: ts, p :: ps, vs, h => by
    obtain ⟨v, vs', rfl, h1, h2, h3⟩ := h.inv
    exact Reps.cons (by rw [argP_ok]; exact h1) h2.argP h3.argsP

/-! ### constants -/
theorem ofV1_rep (Z : Fz) (v : Value) : Rep Z (ofV1 v) v := by
  unfold ofV1
  split
  · exact .list 0 .nil [] none 0 0 0 0 [] (fun _ _ => undef) rfl (Nat.le_refl _) (.inl rfl) (by simp) (fun h => absurd rfl h) (fun i j hi => absurd hi (Nat.not_lt_zero i)) (by simp) (by simp) ⟨rfl, rfl, rfl⟩
  · exact .poison _
  · exact .poison _
  · exact .poison _
  · exact .poison _
  · exact .poison _
  · rename_i f a b
    cases hb : (Nat.beq a.size 0 && Nat.beq b.size 0) with
    | false => exact .poison _
    | true =>
      simp only [Bool.and_eq_true, beq_iff] at hb
      have h1 : a = #[] := Array.eq_empty_of_size_eq_zero hb.1
      have h2 : b = #[] := Array.eq_empty_of_size_eq_zero hb.2
      subst h1; subst h2
      exact Reps.toFn (fv := []) (cv := []) (Reps.nil Z) (Reps.nil Z)
  · rename_i h1 h2 h3 h4 h5 h6 h7
    refine .raw v ?_ ?_
    · cases v <;> first | rfl | (exact absurd rfl (h5 _ _ _))
    · cases v <;> first | rfl | (exact absurd rfl (h3 _)) | (exact absurd rfl (h4 _))

theorem ofV1s_rep (Z : Fz) (l : List Value) : RepM Z (l.map ofV1) l :=
  ⟨by simp, fun i p v a b => by
    rw [List.getElem?_map, b] at a
    simp only [Option.map_some, Option.some.injEq] at a
    subst a; exact ofV1_rep Z v⟩

theorem ofV_rep (Z : Fz) (v : Value) : Rep Z (ofV v) v := by
  unfold ofV
  split
  · rename_i a
    cases hb : allCell (a.toList.map ofV1) with
    | false => exact .poison _
    | true => simpa using ((ofV1s_rep Z a.toList).c hb).toAgg
  · rename_i a
    cases hb : allOk (a.toList.map ofV1) with
    | false => exact .poison _
    | true => simpa using ((ofV1s_rep Z a.toList).s hb).toTup
  · exact ofV1_rep Z v

/-! ### frames -/
structure Rel2 (Z : Fz) (p : PSt) (s : St) : Prop where
  D : p.D = s.D
  slot : ∀ t, Rep Z (p.σ t) (s.σ t)

theorem Rel2.mono {Z Z' : Fz} (hz : Z.le Z') {p : PSt} {s : St} (h : Rel2 Z p s) : Rel2 Z' p s := ⟨h.D, fun t => (h.slot t).mono hz⟩

def RepF (Z : Fz) (p : FrP) (s : Fr) : Prop := ∀ t, Rep Z (p t) (s t)

theorem RepF.upd {Z : Fz} {p : FrP} {s : Fr} (h : RepF Z p s) {t : Nat} {x : PV} {v : Value} (hv : Rep Z x v) : RepF Z (updP p t x) (upd s t v) := by
  intro i
  unfold updP Eng.upd
  cases Nat.beq i t
  · exact h i
  · exact hv

theorem RepF.put {Z : Fz} {p : FrP} {s : Fr} (h : RepF Z p s) {d : Option Nat} {x : PV} {v : Value} (hv : Rep Z x v) : RepF Z (putP p d x) (put s d v) := by
  cases d with
  | none => exact h
  | some t => exact h.upd hv

theorem RepF.wrG {Z : Fz} {k : Nat} : ∀ {ps : List PV} {vs : List Value} {p : FrP} {s : Fr} {j : Nat}, RepF Z p s → RepM Z ps vs → RepF Z (wrGP p k j ps) (wrG s k j vs)
  | [], vs, p, s, j, h, hv => by rw [hv.inv0]; exact h
  | x :: ps, vs, p, s, j, h, hv => by
    obtain ⟨v, vs', rfl, h1, h2⟩ := hv.inv
    exact RepF.wrG (p := updP p (gx k j) x) (s := Eng.upd s (gx k j) v) (j := j + 1) (h.upd h1) h2

theorem RepF.rdG {Z : Fz} {p : FrP} {s : Fr} {k : Nat} (h : RepF Z p s) : ∀ (m j : Nat), RepM Z (rdGP p k j m) (Eng.rdG s k j m)
  | 0, _ => RepM.nil Z
  | m + 1, j => RepM.cons (h _) (h.rdG m (j + 1))

theorem rdGP_length (σ : FrP) (k : Nat) : ∀ (m j : Nat), (rdGP σ k j m).length = m
  | 0, _ => rfl
  | m + 1, j => by simp [rdGP, rdGP_length σ k m (j + 1)]

theorem Rel2.ev {Z : Fz} {p : PSt} {s : St} (h : Rel2 Z p s) (x : Operand) : Rep Z (evP p.σ x) (ev s.σ x) := by
  cases x with
  | tmp t => exact h.slot t
  | const v => exact ofV_rep Z v
  | global g => exact .raw _ rfl rfl
  | func f => exact Reps.toFn (fv := []) (cv := []) (Reps.nil Z) (Reps.nil Z)

theorem Rel2.fin {Z : Fz} {p : PSt} {s : St} (h : Rel2 Z p s) (o : Oper) {x : PV} {v : Value} (hv : Rep Z x v) : Rel2 Z (finP o p x) (fin o s v) := ⟨h.D, RepF.put h.slot hv⟩

/-! ### kinds -/
theorem KV.p_cell (k : KV) (x : k.T) : (k.p x).cell = true := by cases k <;> rfl

theorem nilRow_some {fl : Fl} {rows : List (List PV)} {x : Fl × List (List PV)} (h : nilRow fl rows = some x) : fl = .nil ∧ rows = [] ∧ x = (.nil, []) := by
  unfold nilRow at h
  split at h
  · simp only [Option.some.injEq] at h; exact ⟨rfl, rfl, h.symm⟩
  · cases h

theorem KV.get_rep {Z : Fz} {k : KV} {p : PV} {v : Value} {x : k.T} (h : Rep Z p v) (hg : k.get p = some x) : ∃ y : k.er.T, k.er.get v = some y ∧ Rep Z (k.p x) (k.er.v y) := by
  cases k with
  | raw k =>
    cases p with
    | raw v0 =>
      simp only [KV.get] at hg
      obtain ⟨rfl, hp, h1⟩ := h.ofRaw
      refine ⟨x, hg, ?_⟩
      have := K1.get_v hg
      rw [this] at hp h1
      exact .raw _ hp h1
    | list sz fl rows =>
      cases k with
      | slice =>
        cases fl with
        | nil =>
          simp only [KV.get, Option.some.injEq] at hg
          subst hg
          obtain ⟨a, n, c, rfl, _, _, _, hf⟩ := h.ofList
          obtain ⟨rfl, rfl, rfl⟩ := hf
          exact ⟨(none, 0, 0), rfl, .raw _ rfl rfl⟩
        | _ => simp [KV.get] at hg
      | _ => simp [KV.get] at hg
    | _ => simp [KV.get] at hg
  | list sz =>
    cases p <;> simp only [KV.get] at hg <;> try (cases hg; done)
    rename_i sz' fl rows
    obtain ⟨a, n, c, rfl, _⟩ := h.ofList
    refine ⟨(a, n, c), rfl, ?_⟩
    cases hb : Nat.beq sz sz' with
    | true =>
      rw [hb] at hg
      simp only [cond_true, Option.some.injEq] at hg
      subst hg
      have := beq_iff.1 hb; subst this
      exact h
    | false =>
      rw [hb] at hg
      obtain ⟨rfl, rfl, rfl⟩ := nilRow_some hg
      exact h.nilAny
  | fn =>
    cases p <;> simp only [KV.get] at hg <;> try (cases hg; done)
    rename_i f a b
    obtain ⟨fv, cv, rfl, h1, h2⟩ := h.ofFn
    simp only [Option.some.injEq] at hg
    subst hg
    exact ⟨(f, fv.toArray, cv.toArray), rfl, Reps.toFn h1 h2⟩

theorem TLget_cons {k k' : K1} {ks : List K1} {v : Value} {vs : List Value} {x : k.T} {y : TL (k' :: ks)} (h1 : k.get v = some x) (h2 : TLget (k' :: ks) vs = some y) : TLget (k :: k' :: ks) (v :: vs) = some (x, y) := by
  simp only [TLget, h1, h2]

theorem getLive_cons {s : St} {x y : Nat × Kd} {l : Live} {a : x.2.T} {b : Tup (y :: l)} (h1 : getD1 s x = some a) (h2 : getLive s (y :: l) = some b) : getLive s (x :: y :: l) = some (a, b) := by
  simp only [getLive, h1, h2]

theorem TLPget_rep {Z : Fz} : ∀ {ks : List KV} {ps : List PV} {vs : List Value} {x : TLP ks}, RepM Z ps vs → TLPget ks ps = some x → ∃ y : TL (ks.map KV.er), TLget (ks.map KV.er) vs = some y ∧ RepM Z (TLPv ks x) (TLv (ks.map KV.er) y)
  | [], [], vs, x, h, _ => by rw [h.inv0]; exact ⟨(), rfl, RepM.nil Z⟩
  | [], _ :: _, _, _, _, hg => by simp [TLPget] at hg
  | [k], [], _, _, _, hg => by simp [TLPget] at hg
  | [k], [p], vs, x, h, hg => by
    obtain ⟨v, vs', rfl, h1, h2⟩ := h.inv
    rw [h2.inv0]
    obtain ⟨y, hy, hr⟩ := KV.get_rep h1 hg
    exact ⟨y, hy, RepM.cons hr (RepM.nil Z)⟩
  | [k], _ :: _ :: _, _, _, _, hg => by simp [TLPget] at hg
  | k :: k' :: ks, [], _, _, _, hg => by simp [TLPget] at hg
  | k :: k' :: ks, p :: ps, vs, x, h, hg => by
    obtain ⟨v, vs', rfl, h1, h2⟩ := h.inv
    simp only [TLPget] at hg
    split at hg
    · rename_i a b ha hb
      simp only [Option.some.injEq] at hg
      subst hg
      obtain ⟨y, hy, hr⟩ := KV.get_rep h1 ha
      obtain ⟨ys, hys, hrs⟩ := TLPget_rep (ks := k' :: ks) h2 hb
      refine ⟨(y, ys), ?_, RepM.cons hr hrs⟩
      exact TLget_cons hy hys
    · cases hg

theorem TLPv_cell : ∀ (ks : List KV) (x : TLP ks), allCell (TLPv ks x) = true
  | [], _ => rfl
  | [k], x => by simp [TLPv, allCell, KV.p_cell]
  | k :: k' :: ks, x => by
    have := TLPv_cell (k' :: ks) x.2
    simp only [allCell] at this
    simp only [TLPv, allCell, List.all_cons, KV.p_cell, this, Bool.and_self]

theorem TLPv_length : ∀ (ks : List KV) (x : TLP ks), (TLPv ks x).length = ks.length
  | [], _ => rfl
  | [k], x => rfl
  | k :: k' :: ks, x => by simp [TLPv, TLPv_length (k' :: ks) x.2]

def RepD (Z : Fz) : (x : Nat × KdP) → x.2.T → (Kd.T x.2.er) → Prop
  | (_, .one k), a, b => Rep Z (k.p a) (k.er.v b)
  | (_, .agg ks), a, b => RepM Z (TLPv ks a) (TLv (ks.map KV.er) b)
  | (_, .box ks), a, b => RepM Z (TLPv ks a) (TLv (ks.map KV.er) b)

def RepTup (Z : Fz) : (l : LiveP) → TupP l → Tup l.er → Prop
  | [], _, _ => True
  | [x], a, b => RepD Z x a b
  | x :: y :: l, a, b => RepD Z x a.1 b.1 ∧ RepTup Z (y :: l) a.2 b.2

theorem RepD.mono {Z Z' : Fz} (hz : Z.le Z') : ∀ {x : Nat × KdP} {a : x.2.T} {b : Kd.T x.2.er}, RepD Z x a b → RepD Z' x a b
  | (_, .one k), _, _, h => Rep.mono hz h
  | (_, .agg ks), _, _, h => RepM.mono hz h
  | (_, .box ks), _, _, h => RepM.mono hz h

theorem RepTup.mono {Z Z' : Fz} (hz : Z.le Z') : ∀ {l : LiveP} {a : TupP l} {b : Tup l.er}, RepTup Z l a b → RepTup Z' l a b
  | [], _, _, _ => trivial
  | [x], _, _, h => RepD.mono hz h
  | x :: y :: l, _, _, h => ⟨RepD.mono hz h.1, RepTup.mono (l := y :: l) hz h.2⟩

theorem getD1_rep {Z : Fz} {p : PSt} {s : St} (hr : Rel2 Z p s) : ∀ {x : Nat × KdP} {a : x.2.T}, getD1P p x = some a → ∃ b, getD1 s (x.1, x.2.er) = some b ∧ RepD Z x a b
  | (t, .one k), a, h => KV.get_rep (hr.slot t) h
  | (t, .agg ks), a, h => by
    simp only [getD1P] at h
    have hs := hr.slot t
    split at h
    · rename_i cs he
      rw [he] at hs
      obtain ⟨vs, hv, hc⟩ := hs.ofAgg
      obtain ⟨y, hy, hm⟩ := TLPget_rep hc.m h
      refine ⟨y, ?_, hm⟩
      show (match s.σ t with | .agg a => TLget (ks.map KV.er) a.toList | _ => none) = some y
      rw [hv]; exact hy
    · cases h
  | (t, .box ks), a, h => by
    simp only [getD1P] at h
    have hs := hr.slot t
    split at h
    · rename_i k o he
      rw [he] at hs
      have hv := hs.ofBox
      cases hb : ((Nat.beq k t && Nat.beq o 0) && hasBox p.D t ks.length) with
      | false => rw [hb] at h; cases h
      | true =>
        rw [hb] at h
        obtain ⟨y, hy, hm⟩ := TLPget_rep (RepF.rdG hr.slot _ _) h
        refine ⟨y, ?_, hm⟩
        show (match s.σ t with
          | .complex .f64 k o => bif (Nat.beq k t && Nat.beq o 0) && hasBox s.D t (ks.map KV.er).length then TLget (ks.map KV.er) (rdG s.σ t 0 (ks.map KV.er).length) else none
          | _ => none) = some y
        rw [hv]
        simp only [List.length_map, ← hr.D, hb, cond_true]
        exact hy
    · cases h

theorem getLive_rep {Z : Fz} {p : PSt} {s : St} (hr : Rel2 Z p s) : ∀ {l : LiveP} {a : TupP l}, getLiveP p l = some a → ∃ b, getLive s l.er = some b ∧ RepTup Z l a b
  | [], _, _ => ⟨(), rfl, trivial⟩
  | [x], a, h => getD1_rep hr h
  | x :: y :: l, a, h => by
    simp only [getLiveP] at h
    split at h
    · rename_i a1 a2 h1 h2
      simp only [Option.some.injEq] at h
      subst h
      obtain ⟨b1, hb1, r1⟩ := getD1_rep hr h1
      obtain ⟨b2, hb2, r2⟩ := getLive_rep (l := y :: l) hr h2
      refine ⟨(b1, b2), ?_, r1, r2⟩
      exact getLive_cons hb1 hb2
    · cases h

theorem setD1_rep {Z : Fz} : ∀ {p : PSt} {s : St} (_ : Rel2 Z p s) {x : Nat × KdP} {a : x.2.T} {b : Kd.T x.2.er}, RepD Z x a b → Rel2 Z (setD1P p x a) (setD1 s (x.1, x.2.er) b)
  | p, s, hr, (t, .one k), a, b, h => ⟨hr.D, RepF.upd hr.slot h⟩
  | p, s, hr, (t, .agg ks), a, b, h => ⟨hr.D, RepF.upd hr.slot (h.c (TLPv_cell ks a)).toAgg⟩
  | p, s, hr, (t, .box ks), a, b, h => by
    refine ⟨?_, RepF.wrG (RepF.upd hr.slot (.box t 0)) h⟩
    show (bif hasBox p.D t ks.length then p.D else (t, ks.length) :: p.D) = (bif hasBox s.D t (ks.map KV.er).length then s.D else (t, (ks.map KV.er).length) :: s.D)
    rw [List.length_map, hr.D]

theorem setLive_rep {Z : Fz} : ∀ {l : LiveP} {p : PSt} {s : St} (_ : Rel2 Z p s) {a : TupP l} {b : Tup l.er}, RepTup Z l a b → Rel2 Z (setLiveP p l a) (setLive s l.er b)
  | [], p, s, hr, _, _, _ => hr
  | [x], p, s, hr, _, _, h => setD1_rep hr h
  | x :: y :: l, p, s, hr, a, b, h => setLive_rep (l := y :: l) (setD1_rep hr h.1) h.2

theorem replicate_rep (Z : Fz) (m : Nat) : RepM Z (List.replicate m .poison) (List.replicate m poison) :=
  ⟨by simp, fun i p v a b => by
    rw [List.getElem?_replicate] at a b
    split at a
    · rename_i h
      rw [if_pos h] at b
      cases a; cases b; exact .poison _
    · cases a⟩

theorem scrapG_rep {Z : Fz} : ∀ {l : List (Nat × Nat)} {p : FrP} {s : Fr}, RepF Z p s → RepF Z (scrapGP p l) (scrapG s l)
  | [], _, _, h => h
  | (k, m) :: l, p, s, h => scrapG_rep (l := l) (p := wrGP (updP p k (.box k 0)) k 0 (List.replicate m .poison)) (s := wrG (upd s k (fake k 0)) k 0 (List.replicate m poison)) (RepF.wrG (h.upd (.box k 0)) (replicate_rep Z m))

theorem pois_rep {Z : Fz} {p : FrP} {s : Fr} (h : RepF Z p s) (ws : List Nat) : RepF Z (poisP p ws) (pois s ws) := by
  intro t
  unfold poisP pois
  cases (Nat.blt t 65536 && memN ws t)
  · exact h t
  · exact .poison _

theorem mix_rep {Z : Fz} {p : PSt} {s : St} (hr : Rel2 Z p s) (ws : List Nat) {c : CutP} {a : TupP c.live} {b : Tup c.live.er} (h : RepTup Z c.live a b) : Rel2 Z (mixP p ws c a) (mix s ws c.er b) :=
  setLive_rep (l := c.live) (p := { p with σ := scrapGP (poisP p.σ ws) c.scrap }) (s := { s with σ := scrapG (pois s.σ ws) c.scrap }) ⟨hr.D, scrapG_rep (pois_rep hr.slot ws)⟩ h

theorem scrapOk_rep {Z : Fz} {p : PSt} {s : St} (hr : Rel2 Z p s) : ∀ {l : List (Nat × Nat)}, scrapOkP p l = true → scrapOk s l = true
  | [], _ => rfl
  | (k, m) :: l, h => by
    simp only [scrapOkP, Bool.and_eq_true] at h
    simp only [scrapOk, Bool.and_eq_true]
    refine ⟨⟨by rw [← hr.D]; exact h.1.1, ?_⟩, scrapOk_rep hr h.2⟩
    have h1 := h.1.2
    have hs := hr.slot k
    unfold isBoxP at h1
    split at h1
    · rename_i k' o he
      rw [he] at hs
      rw [hs.ofBox]
      exact h1
    · cases h1

theorem toJ_rep {Z : Fz} {p : PSt} {s : St} (hr : Rel2 Z p s) {c : CutP} {J : TupP c.live → Mem → Prop} {J' : Tup c.er.live → UW → Prop} {μ : Mem} {u : UW} (h : toJP c J p μ) (hJ : ∀ a b, RepTup Z c.live a b → J a μ → J' b u) : toJ c.er J' s u := by
  unfold toJP at h
  unfold toJ
  cases hs : scrapOkP p c.scrap with
  | false => rw [hs] at h; exact h.elim
  | true =>
    rw [hs] at h
    have : scrapOk s c.er.scrap = true := scrapOk_rep hr hs
    rw [this]
    simp only [cond_true] at h ⊢
    cases hg : getLiveP p c.live with
    | none => rw [hg] at h; exact h.elim
    | some a =>
      rw [hg] at h
      obtain ⟨b, hb, hrb⟩ := getLive_rep hr hg
      have hb' : getLive s c.er.live = some b := hb
      rw [hb']
      exact hJ a b hrb h

/-! ### types -/
theorem kindsVF_er (P : Program) (r : Bool) : ∀ (f : Nat) (t : TypeId) {ks : List KV}, kindsVF P r f t = some ks → kindsF P f t = some (ks.map KV.er)
  | 0, _, _, h => by simp [kindsVF] at h
  | f + 1, t, ks, h => by
    unfold kindsVF at h
    unfold kindsF
    cases hu : P.underlying t with
    | none => rw [hu] at h; cases h
    | some d =>
      rw [hu] at h
      cases d <;> simp only at h ⊢ <;> try (cases h; done)
      case int => cases h; rfl
      case bool => cases h; rfl
      case string => cases h; rfl
      case slice => cases r <;> (cases h; rfl)
      case pointer => cases h; rfl
      case func => cases h; rfl
      case map => cases h; rfl
      case struct fs =>
        generalize fs.toList = l at h
        induction l generalizing ks with
        | nil => simp only [List.foldr_nil, Option.some.injEq] at h; subst h; rfl
        | cons x l ih =>
          simp only [List.foldr_cons] at h ⊢
          split at h
          · rename_i a b ha hb
            simp only [Option.some.injEq] at h
            subst h
            rw [kindsVF_er P r f x.type ha, ih _ hb]
            simp
          · cases h
      case array n e =>
        cases hk : kindsVF P r f e with
        | none => rw [hk] at h; cases h
        | some ks' =>
          rw [hk] at h
          simp only [Option.some.injEq] at h
          subst h
          rw [kindsVF_er P r f e hk]
          simp [List.map_flatten, List.map_replicate]

theorem kindsV_er {P : Program} {r : Bool} {t : TypeId} {ks : List KV} (h : kindsV P r t = some ks) : kinds P t = some (ks.map KV.er) := by
  unfold kindsV at h
  unfold kinds
  cases hk : kindsVF P r 8 t with
  | none => rw [hk] at h; cases h
  | some ks' =>
    rw [hk] at h
    rw [kindsVF_er P r 8 t hk]
    simp only at h ⊢
    rw [List.length_map]
    cases h1 : Nat.beq ks'.length (P.cellsOf t) with
    | false => rw [h1] at h; cases h
    | true =>
      rw [h1] at h
      cases h2 : (aggT P t || Nat.beq ks'.length 1) with
      | false => rw [h2] at h; cases h
      | true =>
        rw [h2] at h
        simp only [cond_true, Option.some.injEq] at h ⊢
        subst h; rfl

theorem exKV_elim {Z : Fz} {k : KV} {F : PV → Prop} (h : exKV k F) : ∃ p, p.cell = true ∧ F p ∧ ∀ {G : Value → Prop} {v : Value}, Rep Z p v → G v → exK k.er G := by
  cases k with
  | raw k =>
    cases k <;> simp only [exKV, exK] at h
    case int => obtain ⟨x, h⟩ := h; exact ⟨_, rfl, h, fun hr hG => by rw [hr.ofRaw.1] at hG; exact ⟨_, hG⟩⟩
    case bool => obtain ⟨x, h⟩ := h; exact ⟨_, rfl, h, fun hr hG => by rw [hr.ofRaw.1] at hG; exact ⟨_, hG⟩⟩
    case str => obtain ⟨x, h⟩ := h; exact ⟨_, rfl, h, fun hr hG => by rw [hr.ofRaw.1] at hG; exact ⟨_, hG⟩⟩
    case slice => obtain ⟨a, n, c, h⟩ := h; exact ⟨_, rfl, h, fun hr hG => by rw [hr.ofRaw.1] at hG; exact ⟨_, _, _, hG⟩⟩
    case ptr => obtain ⟨x, h⟩ := h; exact ⟨_, rfl, h, fun hr hG => by rw [hr.ofRaw.1] at hG; exact ⟨_, hG⟩⟩
    case fn => obtain ⟨f, a, b, h⟩ := h; exact ⟨_, rfl, h, fun hr hG => by rw [hr.ofRaw.1] at hG; exact ⟨_, _, _, hG⟩⟩
    case map => obtain ⟨x, h⟩ := h; exact ⟨_, rfl, h, fun hr hG => by rw [hr.ofRaw.1] at hG; exact ⟨_, hG⟩⟩
  | list sz =>
    obtain ⟨fl, rows, h⟩ := h
    exact ⟨_, rfl, h, fun hr hG => by obtain ⟨a, n, c, rfl, _⟩ := hr.ofList; exact ⟨_, _, _, hG⟩⟩
  | fn =>
    obtain ⟨f, a, b, h⟩ := h
    exact ⟨_, rfl, h, fun hr hG => by obtain ⟨fv, cv, rfl, _⟩ := hr.ofFn; exact ⟨_, _, _, hG⟩⟩

theorem exLV_elim {Z : Fz} : ∀ {ks : List KV} {F : List PV → Prop}, exLV ks F → ∃ ps, ps.length = ks.length ∧ allCell ps = true ∧ F ps ∧ ∀ {G : List Value → Prop} {vs : List Value}, RepM Z ps vs → G vs → exL (ks.map KV.er) G
  | [], F, h => ⟨[], rfl, rfl, h, fun hr hG => by rw [hr.inv0] at hG; exact hG⟩
  | k :: ks, F, h => by
    obtain ⟨p, hp, h, hk⟩ := exKV_elim (Z := Z) h
    obtain ⟨ps, hl, hc, h, hks⟩ := exLV_elim (Z := Z) h
    refine ⟨p :: ps, by simp [hl], by simp only [allCell, List.all_cons, hp, Bool.true_and]; exact hc, h, fun hr hG => ?_⟩
    obtain ⟨v, vs, rfl, h1, h2⟩ := hr.inv
    exact hk h1 (hks (G := fun vs => _) h2 hG)

theorem mk_rep {Z : Fz} {b : Bool} {ps : List PV} {vs : List Value} (h : RepC Z ps vs) : Rep Z (mkP b ps) (mkV b vs) := by
  cases b with
  | true => exact h.toAgg
  | false =>
    match ps, h with
    | [], h => exact .poison _
    | [p], h =>
      obtain ⟨v, vs', rfl, h1, h2, h3⟩ := h.inv
      rw [h3.inv0]; exact h2
    | p :: p' :: ps, h => exact .poison _

theorem mkP_ok {P : Program} {r : Bool} {t : TypeId} {ks : List KV} (h : kindsV P r t = some ks) {ps : List PV} (hl : ps.length = ks.length) (hc : allCell ps = true) : (mkP (aggT P t) ps).ok = true := by
  unfold kindsV at h
  split at h
  · rename_i ks' hk
    cases h1 : Nat.beq ks'.length (P.cellsOf t) with
    | false => rw [h1] at h; cases h
    | true =>
      rw [h1] at h
      cases h2 : (aggT P t || Nat.beq ks'.length 1) with
      | false => rw [h2] at h; cases h
      | true =>
        rw [h2] at h
        simp only [cond_true, Option.some.injEq] at h
        subst h
        cases ha : aggT P t with
        | true => rfl
        | false =>
          rw [ha] at h2
          simp only [Bool.false_or, beq_iff] at h2
          rw [h2] at hl
          match ps, hl with
          | [p], _ =>
            simp only [allCell, List.all_cons, List.all_nil, Bool.and_true] at hc
            exact PV.ok_cell hc
  · cases h

theorem exVP_elim {Z : Fz} {P : Program} {r : Bool} {t : TypeId} {F : PV → Prop} (h : exVP P r t F) : ∃ p, p.ok = true ∧ F p ∧ ∀ {G : Value → Prop} {v : Value}, Rep Z p v → G v → exV P t G := by
  unfold exVP at h
  cases hk : kindsV P r t with
  | none => rw [hk] at h; exact h.elim
  | some ks =>
    rw [hk] at h
    obtain ⟨ps, hl, hc, hF, hex⟩ := exLV_elim (Z := Z) h
    refine ⟨_, mkP_ok hk hl hc, hF, fun {G v} hr hG => ?_⟩
    unfold exV
    rw [kindsV_er hk]
    have hok := mkP_ok hk hl hc
    cases ha : aggT P t with
    | true =>
      rw [ha] at hr
      obtain ⟨vs, rfl, hcs⟩ := Rep.ofAgg (ps := ps) hr
      exact hex (G := fun vs => G (mkV true vs)) hcs.m hG
    | false =>
      rw [ha] at hr hok
      match ps, hr, hok with
      | [], hr, hok => simp [mkP, PV.ok, PV.cell] at hok
      | [p], hr, hok => exact hex (G := fun vs => G (mkV false vs)) (RepM.cons hr (RepM.nil Z)) hG
      | p :: p' :: ps, hr, hok => simp [mkP, PV.ok, PV.cell] at hok

theorem exVsP_elim {Z : Fz} {P : Program} {r : Bool} : ∀ {ts : List TypeId} {F : List PV → Prop}, exVsP P r ts F → ∃ ps, allOk ps = true ∧ F ps ∧ ∀ {G : List Value → Prop} {vs : List Value}, RepM Z ps vs → G vs → exVs P ts G
  | [], F, h => ⟨[], rfl, h, fun hr hG => by rw [hr.inv0] at hG; exact hG⟩
  | t :: ts, F, h => by
    obtain ⟨p, hp, h, hk⟩ := exVP_elim (Z := Z) h
    obtain ⟨ps, hc, h, hks⟩ := exVsP_elim (Z := Z) h
    refine ⟨p :: ps, by simp only [allOk, List.all_cons, hp, Bool.true_and]; exact hc, h, fun hr hG => ?_⟩
    obtain ⟨v, vs, rfl, h1, h2⟩ := hr.inv
    exact hk h1 (hks (G := fun vs => _) h2 hG)

theorem exRP_elim {Z : Fz} {P : Program} {r : Bool} {t : TypeId} {F : PV → Prop} (h : exRP P r t F) : ∃ p, F p ∧ ∀ {G : Value → Prop} {v : Value}, Rep Z p v → G v → exR P t G := by
  unfold exRP at h
  unfold exR
  split at h
  · rename_i ts hu
    obtain ⟨ps, _, hF, hex⟩ := exVsP_elim (Z := Z) h
    refine ⟨_, hF, fun {G v} hr hG => ?_⟩
    obtain ⟨vs, rfl, hc⟩ := hr.ofTup
    rw [hu]
    exact hex (G := fun vs => G (.tuple vs.toArray)) hc.m hG
  · rename_i hu
    obtain ⟨p, _, hF, hex⟩ := exVP_elim (Z := Z) h
    refine ⟨p, hF, fun {G v} hr hG => ?_⟩
    split
    · rename_i ts h2; exact absurd h2 (hu ts)
    · exact hex hr hG

end Go.Eng
