import Derived.Test.YtfjemjnbemdkgaaQ03
import Derived.IntWalk
/-
  The engine, thirteenth part: from a function's formula to its contract; contracts used at calls.
-/
namespace Go.Eng
open Go.RowKit

def okRes (n : Nat) : ResultVar → Bool
  | .tmp t => Nat.blt t n
  | .cell t _ => Nat.blt t n

def okFn (n : Nat) (c : Code) (rs : List ResultVar) (args : List Value) : Bool := okCode n c && Nat.ble n 65536 && rs.all (okRes n) && Nat.ble args.length n && args.all plain

def rget (tmps : Array Value) : ResultVar → Sem Value
  | .tmp t => pure (tmps.getD t undef)
  | .cell x t => do loadVar t (← asAddr (tmps.getD x undef))

section
variable {C : Ctx} {a : Act} {wa : World} {st : St} {u : UW} {θ : Nat → Nat}

theorem rget_cell {P : Program} {tmps : Array Value} {x : Nat} {t : TypeId} {ad : Addr} {v : Value} {w : World} (h : tmps.getD x undef = .pointer (some ad)) (hl : (loadVar t ad).run P w = .ok v w) : (rget tmps (.cell x t)).run P w = .ok v w := by
  simp only [rget, Sem.run_bind, h, asAddr, Sem.run_pure, Result.andThen_ok, hl]

theorem rcons {P : Program} {tmps : Array Value} {r : ResultVar} {rs : List ResultVar} {v : Value} {vs : List Value} {w : World} (h : (rget tmps r).run P w = .ok v w) (hs : (rs.mapM (rget tmps)).run P w = .ok vs w) :
    ((r :: rs).mapM (rget tmps)).run P w = .ok (v :: vs) w := by
  simp only [List.mapM_cons, Sem.run_bind, h, Result.andThen_ok, hs, Sem.run_pure]

theorem resQ_sound {P : Program} (hI : Inv C a wa st u θ) : ∀ (rs : List ResultVar) (F : List Value → Prop), (∀ r ∈ rs, okRes C.n r = true) → resQ P st u rs F →
    ∃ vs, (rs.mapM (rget a.tmps)).run P wa = .ok vs wa ∧ F vs
  | [], F, _, h => ⟨[], by simp, h⟩
  | .tmp t :: rs, F, hok, h => by
    simp only [resQ] at h
    obtain ⟨hp, h⟩ := bif_elim h
    obtain ⟨vs, hr, hF⟩ := resQ_sound hI rs _ (fun r hr => hok r (by simp [hr])) h
    have htn : okRes C.n (.tmp t) = true := hok _ (by simp)
    have ht := hI.slots t (blt_iff.1 htn)
    rw [R_plain hp] at ht
    exact ⟨_, rcons (by simp only [rget, Sem.run_pure, ht]) hr, hF⟩
  | .cell x t :: rs, F, hok, h => by
    simp only [resQ] at h
    have htn : okRes C.n (.cell x t) = true := hok _ (by simp)
    have hx : x < C.n := blt_iff.1 htn
    have hs := hI.slots x hx
    cases hk : kinds P t with
    | none => simp only [hk] at h
    | some ks =>
      simp only [hk] at h
      obtain ⟨hl1, ⟨d, hu⟩, hl2⟩ := kinds_spec hk
      split at h
      · rename_i k off he
        cases hb : boxSize st.D k with
        | none => simp only [hb] at h
        | some m =>
          simp only [hb] at h
          obtain ⟨hc, h⟩ := bif_elim h
          simp only [Bool.and_eq_true, Nat.ble_eq] at hc
          obtain ⟨h1, h2⟩ := hc
          obtain ⟨_, c, T, b1, b2, b3, _⟩ := hI.boxes k m (boxSize_mem hb)
          have hlist := cells_drop_take b2 b3 ks.length off h1 (all_plain h2)
          obtain ⟨vs, hr, hF⟩ := resQ_sound hI rs _ (fun r hr => hok r (by simp [hr])) h
          rw [he] at hs
          have hs' : a.tmps.getD x undef = .pointer (some ⟨θ k, off, none⟩) := hs
          exact ⟨_, rcons (rget_cell hs' (by rw [run_loadVar hk b1 (show off + ks.length ≤ c.size by omega), hlist])) hr, hF⟩
      · obtain ⟨b, off, hv, h⟩ := withPtr_elim h
        obtain ⟨us, hlen, hp, hrd, h⟩ := exL_elim h
        obtain ⟨vs, hr, hF⟩ := resQ_sound hI rs _ (fun r hr => hok r (by simp [hr])) h
        rw [hv, R_plain rfl] at hs
        by_cases hz : ks.length = 0
        · have hag : aggT P t = true := hl2.resolve_right (by omega)
          have hvs : us = [] := List.eq_nil_of_length_eq_zero (by omega)
          subst hvs
          obtain ⟨i, hi⟩ := info_of_under hu
          refine ⟨_, rcons (rget_cell hs ?_) hr, hF⟩
          simp only [loadVar, Sem.run_bind, run_isAgg hu, hag, if_true, run_size hi, ← hl1, hz, Result.andThen_ok]
          rfl
        · obtain ⟨c, T, f, c1, c2, c3⟩ := rd_sees hI.below hrd hz
          exact ⟨_, rcons (rget_cell hs (by rw [run_loadVar hk c1 c2, ← c3])) hr, hF⟩

theorem results_run {P : Program} {fn : Func} {rs : List ResultVar} (hrs : fn.results.toList = rs) {vs : List Value} (h : (rs.mapM (rget a.tmps)).run P wa = .ok vs wa) :
    (results fn a.tmps).run P wa = .ok (match vs with | [v] => v | vs => .tuple vs.toArray) wa := by
  have e : results fn a.tmps = (do let vs ← fn.results.mapM (rget a.tmps); pure (if h : vs.size = 1 then vs[0] else .tuple vs) : Sem Value) := by
    unfold results
    congr 1
  rw [e, Array.mapM_eq_mapM_toList, hrs]
  simp only [Sem.run_bind, Sem.run_map, h, Result.andThen_ok, Sem.run_pure]
  match vs with
  | [] => rfl
  | [v] => rfl
  | v :: v' :: vs => simp

end

/-- A mark is taken. -/
theorem Inv.unmark {C : Ctx} {a : Act} {wa : World} {st : St} {u : UW} {θ : Nat → Nat} {d : Deferred} {ds : List Deferred} {r : Nat} (hI : Inv C a wa st u θ) (hd : a.defers = d :: ds) (he : d = { target := .collected r, args := #[] }) :
    Inv C { a with defers := ds } (wa.putObj r (.deferred none)) st u θ := by
  obtain ⟨r', e', hr, hh⟩ := hI.defers.each d (by rw [hd]; simp)
  rw [he] at e'
  simp only [Deferred.mk.injEq, Target.collected.injEq, and_true] at e'
  subst e'
  have hnd : (d :: ds).Nodup := hd ▸ hI.defers.nodup
  have keep : ∀ {b : Nat} {ob : Obj}, b ≠ r → Hid u wa b ob → Hid u (wa.putObj r (.deferred none)) b ob := fun {b ob} hne hh => ⟨(putObj_get hne).trans hh.at_, hh.other, hh.pub, hh.mask⟩
  refine ⟨hI.size, hI.n_le, ⟨fun d' hd' => ?_, (List.nodup_cons.1 hnd).2⟩, fun l0 r0 e => keep ?_ (hI.round l0 r0 e), hI.slots, ?_, ?_, hI.inj, hI.fakes, hI.ghosts, ?_, ?_, hI.pubF, hI.umod, hI.w01, hI.hid, hI.F0⟩
  · obtain ⟨r1, e1, h1, hh1⟩ := hI.defers.each d' (by rw [hd]; simp [hd'])
    refine ⟨r1, e1, h1, keep ?_ hh1⟩
    rintro rfl
    rw [← he] at e1
    subst e1
    exact (List.nodup_cons.1 hnd).1 hd'
  · rintro rfl
    have := (hI.round l0 r0 e).at_; rw [hh.at_] at this; cases this
  · refine ⟨hI.below.os, hI.below.tape, hI.below.output, by simpa using hI.below.size, fun b hb => ?_⟩
    by_cases e : b = r
    · subst e; exact .inr (hh.mask hb)
    · rw [putObj_get e]; exact hI.below.block b hb
  · intro k m hk
    obtain ⟨hmm, c, T, h1, h2, h3, h4, h5, h6⟩ := hI.boxes k m hk
    have hne : θ k ≠ r := by
      intro e; rw [e, hh.at_] at h1; cases h1
    exact ⟨hmm, c, T, (putObj_get hne).trans h1, h2, h3, h4, h5, h6⟩
  · intro b hb; simpa using hI.pubs b hb
  · exact ⟨hI.mod.os, hI.mod.tape, hI.mod.output, by simpa using hI.mod.size, fun b hb hF => (putObj_get (by omega)).trans (hI.mod.keep b hb hF)⟩

/-- The way out of a function, its marks taken. -/
theorem leaves_marks {P : Program} {fn : Func} {rs : List ResultVar} {R : Value → UW → Prop} {C : Ctx} {st : St} {u : UW} {θ : Nat → Nat} {G : Ending → World → Prop} (hrs : fn.results.toList = rs) (hok : ∀ r ∈ rs, okRes C.n r = true) :
    ∀ (ds : List Deferred) (a : Act) (wa : World), a.defers = ds → Inv C a wa st u θ → resQ P st u rs (tupR R u) → (∀ wr v, Out C.F C.w0 C.w1 u.toWorld wr → R v u → G (.returned v) wr) → LeavesInM Fence.wide 0 P fn a.tmps G ds .returning wa
  | [], a, wa, _, hI, hq, hG => by
    obtain ⟨vs, hrun, hR⟩ := resQ_sound hI rs _ hok hq
    refine ⟨_, results_run hrs hrun, hG _ _ ⟨hI.mod, hI.below, hI.umod, hI.hid⟩ ?_⟩
    unfold tupR at hR
    match vs, hR with
    | [], hR => exact hR
    | [v], hR => exact hR
    | v :: v' :: vs, hR => exact hR
  | d :: ds, a, wa, hd, hI, hq, hG => by
    obtain ⟨r, he, hr, hh⟩ := hI.defers.each d (by rw [hd]; simp)
    refine ⟨by simp, .inl ⟨r, _, by rw [he], run_takeDeferred hh.at_, ?_⟩⟩
    exact leaves_marks hrs hok ds { a with defers := ds } _ rfl (hI.unmark hd he) hq hG

/-- A function whose formula holds keeps its contract. -/
theorem WF_sound {P : Program} {f : FuncId} {fn : Func} {c : Code} {n : Nat} {priv : List Nat} {loops joins : List (Nat × Cut)} {rngs : List (Nat × List TypeId)} {rs : List ResultVar} {args : List Value} {w : World} {F : Nat → Prop} {R : Value → UW → Prop}
    (hf : P.funcs[f]? = some fn) (hb : fn.body = some c) (hnt : fn.ntmps = n) (hrs : fn.results.toList = rs) (hok : okFn n c rs args = true) (hF : ∀ b, F b → b < w.heap.size)
    (h : WF P n priv loops joins rngs c rs args ⟨w, F⟩ R) : FnB P f args.toArray w F fun v lo w' => ∃ pub, (∀ b, pub b → F b ∨ lo ≤ b) ∧ R v ⟨w', pub⟩ := by
  simp only [okFn, Bool.and_eq_true, Nat.ble_eq, List.all_eq_true] at hok
  obtain ⟨⟨⟨⟨hc, hn⟩, hr⟩, hal⟩, hpl⟩ := hok
  intro w1 hsees
  refine (callsIn_wide (n := 0)).1 (callsIn_of_wp_marks hf hb trivial ?_)
  have hI : Inv ⟨n, w, w1, F, none⟩ { tmps := args.toArray ++ Array.replicate (fn.ntmps - args.toArray.size) undef, defers := [] } w1 ⟨argF args, []⟩ ⟨w, F⟩ (fun _ => 0) := by
    have hgetD : ∀ t, (args.toArray ++ Array.replicate (fn.ntmps - args.toArray.size) undef).getD t undef = argF args t := by
      intro t
      rw [Array.getD_eq_getD_getElem?]
      unfold argF
      by_cases ht : t < args.length
      · rw [Array.getElem?_append_left (by simpa using ht)]
        simp
      · rw [Array.getElem?_append_right (by simp; omega), List.getElem?_eq_none (by omega), Array.getElem?_replicate]
        split <;> rfl
    have hplain : ∀ t, plain (argF args t) = true := by
      intro t
      unfold argF
      cases hg : args[t]? with
      | none => rfl
      | some v => exact hpl v (List.mem_of_getElem? hg)
    refine ⟨by simp [hnt]; omega, hn, ⟨by simp, List.nodup_nil⟩, fun l r e => (by cases e), fun t _ => ?_, hsees, by simp, by simp, fun t _ k o e => absurd e (not_fake (hplain t) k o), by simp, fun b hb => Nat.lt_of_lt_of_le (hF b hb) hsees.size, Mod.refl _ _, fun b hb _ => hb, Mod.refl _ _, hsees.size, fun b h1 _ h3 => absurd h3 (Nat.not_lt.2 h1), hF⟩
    rw [hgetD]
    exact R_refl (hplain t)
  refine wpIn_mono (W_sound (E := ⟨P, n, priv, loops, joins, rngs⟩) c ⟨n, w, w1, F, none⟩ hc [] _ _ _ _ _ _ hI h) fun e a' wa' hq => ?_
  obtain ⟨st', u', θ', hI', _, hq⟩ := hq
  have key : resQ P st' u' rs (tupR R u') → LeavesInM Fence.wide 0 P fn a'.tmps (fun e wr => ∃ v w', e = .returned v ∧ Out F w w1 w' wr ∧ ∃ pub, (∀ b, pub b → F b ∨ w1.heap.size ≤ b) ∧ R v ⟨w', pub⟩) a'.defers .returning wa' := by
    intro hq
    refine leaves_marks hrs hr a'.defers a' wa' rfl hI' hq fun wr v hout hR => ⟨v, u'.toWorld, rfl, hout, u'.pub, fun b hb => ?_, hR⟩
    by_cases hlt : b < w1.heap.size
    · exact .inl (hI'.pubF b hb hlt)
    · exact .inr (by omega)
  cases e with
  | normal => exact key hq
  | ret => exact key hq
  | exit i => exact hq.elim
  | goto i => exact hq.elim
  | panic i => exact hq.elim
  | outgrown => exact hq.elim

/-! ### contracts at calls -/
theorem FnB.mono {P : Program} {f : FuncId} {args : Array Value} {w : World} {F : Nat → Prop} {K K' : Value → Nat → World → Prop} (h : FnB P f args w F K) (hk : ∀ v lo w', Mod F w w' → w.heap.size ≤ lo → K v lo w' → K' v lo w') :
    FnB P f args w F K' := by
  intro w1 hs
  refine (h w1 hs).mono fun e wr hp => ?_
  obtain ⟨v, w', rfl, ho, hK⟩ := hp
  exact ⟨v, w', rfl, ho, hk v _ w' ho.umod hs.size hK⟩

/-- A function that touches nothing that was there. -/
def FnA (P : Program) (f : FuncId) (args : Array Value) (w : World) (K : Value → World → Prop) : Prop := FnB P f args w (fun _ => False) fun v _ w' => K v w'

theorem Mod.below {w w' : World} (h : Mod (fun _ => False) w w') : Below w.heap.size w w' := ⟨h.os, h.tape, h.output, h.size, fun b hb => h.keep b hb id⟩

theorem CallF.a {P : Program} {f : FuncId} {args : Array Value} {u : UW} {R : Value → World → Prop} {K : Value → UW → Prop} (h : FnA P f args u.toWorld R) (hk : ∀ v lo w', Below u.heap.size u.toWorld w' → R v w' → K v (u.ret lo w')) : CallF P f args u K :=
  ⟨fun _ => False, fun _ hf => hf.elim, h.mono fun v lo w' hm _ hR => hk v lo w' hm.below hR⟩

theorem CallF.b {P : Program} {f : FuncId} {args : Array Value} {u : UW} {F : Nat → Prop} {R : Value → Nat → World → Prop} {K : Value → UW → Prop} (h : FnB P f args u.toWorld F R) (hF : ∀ b, F b → u.pub b)
    (hk : ∀ v lo w', Mod F u.toWorld w' → u.heap.size ≤ lo → R v lo w' → K v (u.ret lo w')) : CallF P f args u K :=
  ⟨F, hF, h.mono fun v lo w' hm hl hR => hk v lo w' hm hl hR⟩

/-- From the formula to the contract of a function that touches nothing that was there. -/
theorem FnA.of {P : Program} {f : FuncId} {fn : Func} {c : Code} {n : Nat} {priv : List Nat} {loops joins : List (Nat × Cut)} {rngs : List (Nat × List TypeId)} {rs : List ResultVar} {args : List Value} {w : World} {K : Value → World → Prop}
    (hf : P.funcs[f]? = some fn) (hb : fn.body = some c) (hnt : fn.ntmps = n) (hrs : fn.results.toList = rs) (hok : okFn n c rs args = true)
    (h : WF P n priv loops joins rngs c rs args ⟨w, fun _ => False⟩ fun v u => K v u.toWorld) : FnA P f args.toArray w K :=
  (WF_sound hf hb hnt hrs hok (fun _ h => h.elim) h).mono fun _ _ _ _ _ ⟨_, _, hK⟩ => hK

/-- The last step: the machine's call itself. -/
theorem FnA.calls {P : Program} {f : FuncId} {args : Array Value} {w : World} {K : Value → World → Prop} (h : FnA P f args w K) : Calls P f args w fun e w' => (∃ v w2, e = .returned v ∧ K v w2) ∧ Below w.heap.size w w' :=
  (h w (Sees.refl w)).mono fun _ _ ⟨v, w', he, ho, hK⟩ => ⟨⟨v, w', he, hK⟩, ho.mod.below⟩

end Go.Eng

/-
  The engine, for its users: reading rows of cells; slices that read as lists; append.
-/
namespace Go.Eng
open Go.RowKit

theorem rd_block {H : Heap} {b o n : Nat} {vs : List Value} (h : rd H b o n = some vs) : ∃ c T f, H[b]? = some (.cells c T f) ∧ o + n ≤ c.size ∧ vs = (c.toList.drop o).take n := by
  unfold rd at h
  cases hb : H[b]? with
  | none => simp [hb] at h
  | some ob =>
    cases ob <;> simp only [hb] at h <;> try (cases h; done)
    rename_i c T f
    split at h
    · rename_i hl; simp only [Option.some.injEq] at h; exact ⟨c, T, f, rfl, hl, h.symm⟩
    · cases h

theorem rd_of {H : Heap} {b o n : Nat} {c : Array Value} {T : TypeId} {f : Nat × Nat} (h : H[b]? = some (.cells c T f)) (hl : o + n ≤ c.size) : rd H b o n = some ((c.toList.drop o).take n) := by
  simp [rd, h, hl]

theorem rd_lt {H : Heap} {b o n : Nat} {vs : List Value} (h : rd H b o n = some vs) : b < H.size := by
  obtain ⟨c, T, f, h1, _⟩ := rd_block h
  exact (Array.getElem?_eq_some_iff.1 h1).1

theorem rd_len {H : Heap} {b o n : Nat} {vs : List Value} (h : rd H b o n = some vs) : vs.length = n := by
  obtain ⟨c, T, f, h1, h2, rfl⟩ := rd_block h
  simp; omega

theorem rd_same {H H' : Heap} {b o n : Nat} {vs : List Value} (h : rd H b o n = some vs) (hb : H'[b]? = H[b]?) : rd H' b o n = some vs := by
  unfold rd at *; rw [hb]; exact h

theorem Below.rd {w w' : World} (hb : Below w.heap.size w w') {b o n : Nat} {vs : List Value} (h : rd w.heap b o n = some vs) : rd w'.heap b o n = some vs :=
  rd_same h (hb.block b (rd_lt h))

theorem Mod.rd {F : Nat → Prop} {w w' : World} (hb : Mod F w w') {b o n : Nat} {vs : List Value} (h : rd w.heap b o n = some vs) (hF : ¬ F b) : rd w'.heap b o n = some vs :=
  rd_same h (hb.keep b (rd_lt h) hF)

theorem rd_sub {H : Heap} {b o n i k : Nat} {vs : List Value} (h : rd H b o n = some vs) (hi : i + k ≤ n) : rd H b (o + i) k = some ((vs.drop i).take k) := by
  obtain ⟨c, T, f, h1, h2, rfl⟩ := rd_block h
  rw [rd_of h1 (by omega)]
  congr 1
  rw [List.drop_take, List.take_take, List.drop_drop]
  congr 1; omega

theorem flat_len {sz : Nat} : ∀ {css : List (List Value)}, (∀ x ∈ css, x.length = sz) → css.flatten.length = css.length * sz
  | [], _ => by simp
  | x :: css, h => by
    have ih := flat_len (css := css) (fun y hy => h y (by simp [hy]))
    rw [List.flatten_cons, List.length_append, List.length_cons, h x (by simp), ih, Nat.add_mul, Nat.one_mul]; omega

theorem flat_get {sz : Nat} : ∀ {css : List (List Value)} {i : Nat} (hi : i < css.length), (∀ x ∈ css, x.length = sz) → (css.flatten.drop (i * sz)).take sz = css[i]
  | x :: css, 0, _, h => by
    simp only [Nat.zero_mul, List.drop_zero, List.flatten_cons, List.getElem_cons_zero]
    rw [List.take_append_of_le_length (by rw [h x (by simp)]; exact Nat.le_refl _), List.take_of_length_le (by rw [h x (by simp)]; exact Nat.le_refl _)]
  | x :: css, i + 1, hi, h => by
    simp only [List.flatten_cons, List.getElem_cons_succ]
    have e : (i + 1) * sz = x.length + i * sz := by rw [h x (by simp), Nat.add_mul, Nat.one_mul, Nat.add_comm]
    rw [e, ← List.drop_drop, List.drop_left]
    exact flat_get (by simpa using hi) (fun y hy => h y (by simp [hy]))

/-- A slice of elements of sz cells each reads as css. -/
structure SlR (H : Heap) (a : Option Addr) (n c sz : Nat) (css : List (List Value)) : Prop where
  len : css.length = n
  cap : n ≤ c
  each : ∀ x ∈ css, x.length = sz
  read : n ≠ 0 → ∃ b o, a = some ⟨b, o, none⟩ ∧ rd H b o (n * sz) = some css.flatten

/-- The same, and its place is a plain one. -/
structure SlC (H : Heap) (a : Option Addr) (n c sz : Nat) (css : List (List Value)) : Prop extends SlR H a n c sz css where
  spot : noSpot a

theorem SlR.nil (H : Heap) (sz : Nat) : SlR H none 0 0 sz [] := ⟨rfl, Nat.le_refl _, by simp, fun h => absurd rfl h⟩
theorem SlC.nil (H : Heap) (sz : Nat) : SlC H none 0 0 sz [] := ⟨SlR.nil H sz, fun _ h => (by cases h)⟩

theorem SlR.below {w w' : World} {a : Option Addr} {n c sz : Nat} {css : List (List Value)} (h : SlR w.heap a n c sz css) (hb : Below w.heap.size w w') : SlR w'.heap a n c sz css :=
  ⟨h.len, h.cap, h.each, fun hn => let ⟨b, o, e, hr⟩ := h.read hn; ⟨b, o, e, Below.rd hb hr⟩⟩

theorem SlC.below {w w' : World} {a : Option Addr} {n c sz : Nat} {css : List (List Value)} (h : SlC w.heap a n c sz css) (hb : Below w.heap.size w w') : SlC w'.heap a n c sz css := ⟨h.toSlR.below hb, h.spot⟩

theorem SlR.same {H H' : Heap} {a : Option Addr} {n c sz : Nat} {css : List (List Value)} (h : SlR H a n c sz css) (hb : ∀ b o, a = some ⟨b, o, none⟩ → H'[b]? = H[b]?) : SlR H' a n c sz css :=
  ⟨h.len, h.cap, h.each, fun hn => let ⟨b, o, e, hr⟩ := h.read hn; ⟨b, o, e, rd_same hr (hb b o e)⟩⟩

theorem SlC.same {H H' : Heap} {a : Option Addr} {n c sz : Nat} {css : List (List Value)} (h : SlC H a n c sz css) (hb : ∀ b o, a = some ⟨b, o, none⟩ → H'[b]? = H[b]?) : SlC H' a n c sz css := ⟨h.toSlR.same hb, h.spot⟩

/-- Element i. -/
theorem SlR.at {H : Heap} {a : Option Addr} {n c sz : Nat} {css : List (List Value)} (h : SlR H a n c sz css) {i : Nat} (hi : i < css.length) : ∃ b o, a = some ⟨b, o, none⟩ ∧ rd H b (o + i * sz) sz = some css[i] := by
  have hn : n ≠ 0 := by have := h.len; omega
  obtain ⟨b, o, e, hr⟩ := h.read hn
  refine ⟨b, o, e, ?_⟩
  have hle : i * sz + sz ≤ n * sz := by rw [← Nat.succ_mul]; exact Nat.mul_le_mul_right _ (by have := h.len; omega)
  have := rd_sub (i := i * sz) (k := sz) hr hle
  rw [this, flat_get hi h.each]

/-- The type's row for an append. -/
def ti (P : Program) (e : TypeId) (sz bytes : Nat) (zero : List Value) : Prop := (P.info? e).map (fun i => (i.size, i.bytes, i.zero.map fun z => z.cells.toList)) = some (sz, bytes, some zero)

/-- A new slice, made by the function at hand: its block may be written. -/
structure OwnS (u : UW) (a : Option Addr) (n c sz : Nat) (css : List (List Value)) : Prop where
  sl : SlC u.heap a n c sz css
  own : ∀ b o, a = some ⟨b, o, none⟩ → u.pub b ∧ ∃ C T, u.heap[b]? = some (.cells C T (0, 0)) ∧ o + c * sz ≤ C.size
  nil : a = none → c = 0

theorem Born.get {w w' : World} {b : Nat} {o o' : Obj} {c : Nat} (h : Born w w' b o) (hc : w.heap[c]? = some o') : w'.heap[c]? = some o' := by
  rw [h.below.block c (Array.getElem?_eq_some_iff.1 hc).1]; exact hc

/-- append(nil, x...): a copy. -/
theorem cApp_copy {P : Program} {e : TypeId} {xb : Option Addr} {m xc sz bytes : Nat} {zero : List Value} {css : List (List Value)} {u : UW} {K : Option Addr → Nat → Nat → UW → Prop} (ht : ti P e sz bytes zero) (hz : zero.length = sz) (hx : SlR u.heap xb m xc sz css)
    (hby : m * bytes ≤ 140737488355328) (h62 : m < 4611686018427387904) (hone : ∀ x ∈ css, ∀ v ∈ x, one v = true)
    (h0 : m = 0 → K none 0 0 u)
    (h1 : ∀ (c b : Nat) (w' : World) (C : List Value), m ≤ c → Below u.heap.size u.toWorld w' → u.heap.size ≤ b → w'.heap[b]? = some (.cells C.toArray e (0, 0)) → C.length = c * sz → OwnS (u.born b w') (some ⟨b, 0, none⟩) m c sz css → K (some ⟨b, 0, none⟩) m c (u.born b w')) :
    cApp P e none 0 0 xb m u K := by
  refine ⟨sz, bytes, zero, [], css.flatten, ht, fun hm => ?_, fun hm => ?_, fun _ => rfl, fun h => absurd rfl h, Nat.le_refl _, by simpa using hby, by simpa using h62, hz, fun v hv => ?_, fun hr => ?_, fun _ => ?_⟩
  · have := hx.len; rw [hm] at this; rw [List.eq_nil_of_length_eq_zero this]; rfl
  · obtain ⟨b, o, rfl, hr⟩ := hx.read hm; exact hr
  · obtain ⟨x, hx1, hx2⟩ := List.mem_flatten.1 hv; exact hone x hx1 v hx2
  · left; exact ⟨by omega, h0 (by omega)⟩
  · intro c b rest w' hc hl hb
    simp only [Nat.zero_add] at hc hl ⊢
    have hfl := flat_len hx.each
    have hlen : (css.flatten ++ rest).length = c * sz := by
      rw [List.length_append, hfl, hx.len, hl, ← Nat.add_mul]; congr 1; omega
    have hb2 : w'.heap[b]? = some (.cells (css.flatten ++ rest).toArray e (0, 0)) := by simpa using hb.at_
    refine h1 c b w' (css.flatten ++ rest) hc hb.below hb.ge hb2 hlen ⟨⟨⟨hx.len, hc, hx.each, fun hn => ⟨b, 0, rfl, ?_⟩⟩, fun x h => by cases h; rfl⟩, fun b' o' h => ?_, fun h => by cases h⟩
    · have hb' : (u.born b w').heap[b]? = some (.cells (css.flatten ++ rest).toArray e (0, 0)) := hb2
      rw [rd_of hb' (by simp only [List.size_toArray, hlen, Nat.zero_add]; exact Nat.mul_le_mul_right _ hc)]
      simp only [List.drop_zero]
      rw [List.take_append_of_le_length (by rw [hfl, hx.len]; exact Nat.le_refl _), List.take_of_length_le (by rw [hfl, hx.len]; exact Nat.le_refl _)]
    · simp only [Option.some.injEq, Addr.mk.injEq] at h
      obtain ⟨rfl, rfl, _⟩ := h
      exact ⟨.inr rfl, _, _, hb2, by simp only [List.size_toArray, hlen]; omega⟩

/-- append(s, x...), s an own row, or one with no room: what comes out is an own row again. -/
theorem cApp_own {P : Program} {e : TypeId} {a xb : Option Addr} {n cap m xc sz bytes : Nat} {zero : List Value} {css dss : List (List Value)} {u : UW} {K : Option Addr → Nat → Nat → UW → Prop} (ht : ti P e sz bytes zero) (hz : zero.length = sz)
    (hs : SlC u.heap a n cap sz css) (hx : SlR u.heap xb m xc sz dss) (hm : m ≠ 0) (hby : (n + m) * bytes ≤ 140737488355328) (h62 : n + m < 4611686018427387904) (hone : ∀ x ∈ dss, ∀ v ∈ x, one v = true)
    (hroom : n + m ≤ cap → ∃ b o C T, a = some ⟨b, o, none⟩ ∧ u.pub b ∧ u.heap[b]? = some (.cells C T (0, 0)) ∧ o + cap * sz ≤ C.size)
    (hin : ∀ (b o : Nat) (C : Array Value) (T : TypeId) (w' : World), n + m ≤ cap → a = some ⟨b, o, none⟩ → u.heap[b]? = some (.cells C T (0, 0)) → Sto u.toWorld w' b (.cells (wrA C (o + n * sz) dss.flatten) T (0, 0)) → OwnS (u.sto w') a (n + m) cap sz (css ++ dss) → K a (n + m) cap (u.sto w'))
    (hnew : ∀ (c b : Nat) (w' : World) (C : List Value), n + m ≤ c → Below u.heap.size u.toWorld w' → u.heap.size ≤ b → w'.heap[b]? = some (.cells C.toArray e (0, 0)) → C.length = c * sz → OwnS (u.born b w') (some ⟨b, 0, none⟩) (n + m) c sz (css ++ dss) → K (some ⟨b, 0, none⟩) (n + m) c (u.born b w')) :
    cApp P e a n cap xb m u K := by
  have hcl := flat_len hs.each
  have hdl := flat_len hx.each
  have heach : ∀ x ∈ css ++ dss, x.length = sz := fun x hx' => by
    rw [List.mem_append] at hx'; exact hx'.elim (hs.each x) (hx.each x)
  refine ⟨sz, bytes, zero, css.flatten, dss.flatten, ht, fun h => absurd h hm, fun _ => ?_, fun hn => ?_, fun hn => ?_, hs.cap, hby, h62, hz, fun v hv => ?_, fun hr => ?_, fun _ => ?_⟩
  · obtain ⟨b, o, rfl, hr⟩ := hx.read hm; exact hr
  · have := hs.len; rw [hn] at this; rw [List.eq_nil_of_length_eq_zero this]; rfl
  · obtain ⟨b, o, rfl, hr⟩ := hs.read hn; exact hr
  · obtain ⟨x, hx1, hx2⟩ := List.mem_flatten.1 hv; exact hone x hx1 v hx2
  · right
    obtain ⟨b, o, C, T, rfl, hp, hb, hC⟩ := hroom hr
    have hle : n * sz + m * sz ≤ cap * sz := by rw [← Nat.add_mul]; exact Nat.mul_le_mul_right _ hr
    refine ⟨hm, C, T, hb, by rw [hdl, hx.len]; omega, hp, fun w' hst => ?_⟩
    have hlw : (wrA C (o + n * sz) dss.flatten).toList = C.toList.take (o + n * sz) ++ dss.flatten ++ C.toList.drop (o + n * sz + dss.flatten.length) := wrA_list _ _ _ (by rw [hdl, hx.len]; omega)
    refine hin b o C T w' hr rfl hb hst ⟨⟨⟨by rw [List.length_append, hs.len, hx.len], hr, heach, fun _ => ⟨b, o, rfl, ?_⟩⟩, hs.spot⟩, fun b' o' h => ?_, fun h => by cases h⟩
    · have hb' : (u.sto w').heap[b]? = some (.cells (wrA C (o + n * sz) dss.flatten) T (0, 0)) := hst.at_
      rw [rd_of hb' (by rw [wrA_size, Nat.add_mul]; omega), hlw]
      have hold : (C.toList.take (o + n * sz)).drop o = css.flatten := by
        by_cases hn : n = 0
        · have h0 : css = [] := List.eq_nil_of_length_eq_zero (by rw [hs.len, hn])
          subst h0
          simp [hn]
        · obtain ⟨b2, o2, e2, hr2⟩ := hs.read hn
          simp only [Option.some.injEq, Addr.mk.injEq] at e2
          obtain ⟨rfl, rfl, _⟩ := e2
          obtain ⟨C2, T2, f2, c1, c2, c3⟩ := rd_block hr2
          rw [hb] at c1
          simp only [Option.some.injEq, Obj.cells.injEq] at c1
          obtain ⟨rfl, _, _⟩ := c1
          rw [c3, List.drop_take]; congr 1; omega
      congr 1
      rw [List.append_assoc, List.drop_append_of_le_length (by simp; omega), hold, List.flatten_append, ← List.append_assoc]
      rw [List.take_append_of_le_length (by simp only [List.length_append, hcl, hdl, hs.len, hx.len, Nat.add_mul]; omega), List.take_of_length_le (by simp only [List.length_append, hcl, hdl, hs.len, hx.len, Nat.add_mul]; omega)]
    · simp only [Option.some.injEq, Addr.mk.injEq] at h
      obtain ⟨rfl, rfl, _⟩ := h
      exact ⟨hp, _, _, hst.at_, by rw [wrA_size]; exact hC⟩
  · intro c b rest w' hc hl hb
    have hfl : (css ++ dss).flatten.length = (n + m) * sz := by rw [flat_len heach, List.length_append, hs.len, hx.len]
    have hlen : (css.flatten ++ dss.flatten ++ rest).length = c * sz := by
      rw [← List.flatten_append, List.length_append, hfl, hl, ← Nat.add_mul]; congr 1; omega
    refine hnew c b w' (css.flatten ++ dss.flatten ++ rest) hc hb.below hb.ge hb.at_ hlen ⟨⟨⟨by rw [List.length_append, hs.len, hx.len], hc, heach, fun hn => ⟨b, 0, rfl, ?_⟩⟩, fun x h => by cases h; rfl⟩, fun b' o' h => ?_, fun h => by cases h⟩
    · have hb' : (u.born b w').heap[b]? = some (.cells (css.flatten ++ dss.flatten ++ rest).toArray e (0, 0)) := hb.at_
      rw [rd_of hb' (by simp only [List.size_toArray, hlen, Nat.zero_add]; exact Nat.mul_le_mul_right _ hc)]
      simp only [List.drop_zero]
      rw [← List.flatten_append, List.take_append_of_le_length (by rw [hfl]; exact Nat.le_refl _), List.take_of_length_le (by rw [hfl]; exact Nat.le_refl _)]
    · simp only [Option.some.injEq, Addr.mk.injEq] at h
      obtain ⟨rfl, rfl, _⟩ := h
      exact ⟨.inr rfl, _, _, hb.at_, by simp only [List.size_toArray, hlen]; omega⟩

/-- int's sum where it does not wrap. -/
theorem wrap_id {x : Int} (h0 : -9223372036854775808 ≤ x) (h1 : x ≤ 9223372036854775807) : IntKind.i64.wrap x = x := IntWalk.i64_in x (by omega)

end Go.Eng

/-
  Plain values: slices that nobody writes any more are lists; what can still be written is a small memory of its own.
-/
namespace Go.Eng
open Go.RowKit

/-- What is known of a list's place: nothing; that it has no room behind it; that it is nil; that it is the beginning of a block that may be gone on with. -/
inductive Fl where
  | sh
  | nr
  | nil
  | tip (b c : Nat)

inductive PV where
  | raw (v : Value)
  | list (sz : Nat) (fl : Fl) (rows : List (List PV))
  | fptr (row : List PV) (o : Nat)
  | fn (f : Fn) (first caps : List PV)
  | agg (cs : List PV)
  | tup (vs : List PV)
  | iface (t : TypeId) (p : PV)
  | box (k o : Nat)
  | poison

@[reducible] def pI (i : Int) : PV := .raw (.int .i64 i)
@[reducible] def pB (b : Bool) : PV := .raw (.bool b)
@[reducible] def pS (s : ByteArray) : PV := .raw (.string s)
@[reducible] def pP (b o : Nat) : PV := .raw (.pointer (some ⟨b, o, none⟩))

/-- Fits into one cell. -/
def PV.cell : PV → Bool
  | .raw _ | .list .. | .fptr .. | .fn .. | .iface .. => true
  | _ => false

/-- Can be handed on. -/
def PV.ok : PV → Bool
  | .agg _ => true
  | p => p.cell

/-- What is frozen: of each block a beginning. -/
abbrev Fz := Nat → Option (List Value)

def FlOk : Fl → Option Addr → Nat → Nat → Prop
  | .sh, _, _, _ => True
  | .nr, _, n, c => c = n
  | .nil, a, n, c => a = none ∧ n = 0 ∧ c = 0
  | .tip b c', a, _, c => a = some ⟨b, 0, none⟩ ∧ c = c'

inductive Rep (Z : Fz) : PV → Value → Prop where
  | raw (v : Value) (h : plain v = true) (h1 : one v = true) : Rep Z (.raw v) v
  | list (sz : Nat) (fl : Fl) (rows : List (List PV)) (a : Option Addr) (n c b o : Nat) (C : List Value) (g : Nat → Nat → Value) (hn : rows.length = n) (hc : n ≤ c) (hs : c = 0 ∨ noSpot a) (hr : ∀ r ∈ rows, r.length = sz)
      (ha : n ≠ 0 → a = some ⟨b, o, none⟩ ∧ Z b = some C) (hg : ∀ i j : Nat, i < n → j < sz → C[o + i * sz + j]? = some (g i j))
      (hk : ∀ (i j : Nat) row p, rows[i]? = some row → row[j]? = some p → p.cell = true) (hp : ∀ (i j : Nat) row p, rows[i]? = some row → row[j]? = some p → Rep Z p (g i j)) (hf : FlOk fl a n c) : Rep Z (.list sz fl rows) (.slice a n c)
  | fptr (row : List PV) (o b off : Nat) (C : List Value) (g : Nat → Value) (hz : Z b = some C) (hg : ∀ j : Nat, j < row.length → C[off + j]? = some (g j)) (hk : ∀ (j : Nat) p, row[j]? = some p → p.cell = true) (hp : ∀ (j : Nat) p, row[j]? = some p → Rep Z p (g j)) : Rep Z (.fptr row o) (.pointer (some ⟨b, off + o, none⟩))
  | fn (f : Fn) (first caps : List PV) (fv cv : List Value) (h1 : fv.length = first.length) (h2 : cv.length = caps.length) (kf : ∀ p ∈ first, p.ok = true) (kc : ∀ p ∈ caps, p.ok = true) (hf : ∀ (i : Nat) p v, first[i]? = some p → fv[i]? = some v → Rep Z p v) (hc : ∀ (i : Nat) p v, caps[i]? = some p → cv[i]? = some v → Rep Z p v) : Rep Z (.fn f first caps) (.func f fv.toArray cv.toArray)
  | agg (cs : List PV) (vs : List Value) (hl : vs.length = cs.length) (hk : ∀ p ∈ cs, p.cell = true) (h : ∀ (i : Nat) p v, cs[i]? = some p → vs[i]? = some v → Rep Z p v) : Rep Z (.agg cs) (.agg vs.toArray)
  | tup (ps : List PV) (vs : List Value) (hl : vs.length = ps.length) (hk : ∀ p ∈ ps, p.ok = true) (h : ∀ (i : Nat) p v, ps[i]? = some p → vs[i]? = some v → Rep Z p v) : Rep Z (.tup ps) (.tuple vs.toArray)
  | iface (t : TypeId) (p : PV) (v : Value) (hk : p.ok = true) (h : Rep Z p v) : Rep Z (.iface t p) (.iface t v)
  | box (k o : Nat) : Rep Z (.box k o) (fake k o)
  | poison (v : Value) : Rep Z .poison v

/-- More is frozen. -/
def Fz.le (Z Z' : Fz) : Prop := ∀ b C, Z b = some C → ∃ C', Z' b = some C' ∧ C <+: C'

theorem Fz.le.refl (Z : Fz) : Z.le Z := fun _ C h => ⟨C, h, List.prefix_refl C⟩
theorem Fz.le.trans {A B C : Fz} (h : A.le B) (k : B.le C) : A.le C := fun b L hL => by
  obtain ⟨L', h1, h2⟩ := h b L hL
  obtain ⟨L'', h3, h4⟩ := k b L' h1
  exact ⟨L'', h3, h2.trans h4⟩

theorem prefix_get {A B : List Value} (h : A <+: B) {i : Nat} {v : Value} (hv : A[i]? = some v) : B[i]? = some v := by
  obtain ⟨t, rfl⟩ := h
  rw [List.getElem?_append_left (List.getElem?_eq_some_iff.1 hv).1]; exact hv

theorem Rep.mono {Z Z' : Fz} (hz : Z.le Z') {p : PV} {v : Value} (h : Rep Z p v) : Rep Z' p v := by
  induction h with
  | raw v h h1 => exact .raw v h h1
  | list sz fl rows a n c b o C g hn hc hs hr ha hg hk hp hf ih =>
    by_cases h0 : n = 0
    · exact .list sz fl rows a n c b o C g hn hc hs hr (fun h => absurd h0 h) hg hk ih hf
    · obtain ⟨C', h1, h2⟩ := hz b C (ha h0).2
      exact .list sz fl rows a n c b o C' g hn hc hs hr (fun _ => ⟨(ha h0).1, h1⟩) (fun i j hi hj => prefix_get h2 (hg i j hi hj)) hk ih hf
  | fptr row o b off C g hC hg hk hp ih =>
    obtain ⟨C', h1, h2⟩ := hz b C hC
    exact .fptr row o b off C' g h1 (fun j hj => prefix_get h2 (hg j hj)) hk ih
  | fn f first caps fv cv h1 h2 kf kc hf hc ih1 ih2 => exact .fn f first caps fv cv h1 h2 kf kc ih1 ih2
  | agg cs vs hl hk h ih => exact .agg cs vs hl hk ih
  | tup cs vs hl hk h ih => exact .tup cs vs hl hk ih
  | iface t p v hk _ ih => exact .iface t p v hk ih
  | box k o => exact .box k o
  | poison v => exact .poison v

theorem Rep.cell {Z : Fz} {p : PV} {v : Value} (h : Rep Z p v) (hc : p.cell = true) : plain v = true ∧ one v = true := by
  cases h <;> first | (constructor <;> assumption) | exact ⟨rfl, rfl⟩ | (simp [PV.cell] at hc)

theorem Rep.plain {Z : Fz} {p : PV} {v : Value} (h : Rep Z p v) (hc : p.ok = true) : plain v = true := by
  cases h <;> first | assumption | rfl | (simp [PV.ok, PV.cell] at hc)

/-- One by one. -/
def Reps (Z : Fz) (ps : List PV) (vs : List Value) : Prop := vs.length = ps.length ∧ ∀ (i : Nat) p v, ps[i]? = some p → vs[i]? = some v → p.ok = true ∧ Rep Z p v
def RepC (Z : Fz) (ps : List PV) (vs : List Value) : Prop := vs.length = ps.length ∧ ∀ (i : Nat) p v, ps[i]? = some p → vs[i]? = some v → p.cell = true ∧ Rep Z p v

theorem Reps.mono {Z Z' : Fz} (hz : Z.le Z') {ps : List PV} {vs : List Value} (h : Reps Z ps vs) : Reps Z' ps vs := ⟨h.1, fun i p v a b => ⟨(h.2 i p v a b).1, (h.2 i p v a b).2.mono hz⟩⟩
theorem RepC.mono {Z Z' : Fz} (hz : Z.le Z') {ps : List PV} {vs : List Value} (h : RepC Z ps vs) : RepC Z' ps vs := ⟨h.1, fun i p v a b => ⟨(h.2 i p v a b).1, (h.2 i p v a b).2.mono hz⟩⟩
theorem PV.ok_cell {p : PV} (h : p.cell = true) : p.ok = true := by cases p <;> simp_all [PV.ok, PV.cell]
theorem RepC.reps {Z : Fz} {ps : List PV} {vs : List Value} (h : RepC Z ps vs) : Reps Z ps vs := ⟨h.1, fun i p v a b => ⟨PV.ok_cell (h.2 i p v a b).1, (h.2 i p v a b).2⟩⟩
theorem Reps.nil (Z : Fz) : Reps Z [] [] := ⟨rfl, by simp⟩
theorem RepC.nil (Z : Fz) : RepC Z [] [] := ⟨rfl, by simp⟩
theorem Reps.cons {Z : Fz} {p : PV} {ps : List PV} {v : Value} {vs : List Value} (hk : p.ok = true) (h : Rep Z p v) (hs : Reps Z ps vs) : Reps Z (p :: ps) (v :: vs) :=
  ⟨by simp [hs.1], fun i q w a b => by
    cases i with
    | zero => simp only [List.getElem?_cons_zero, Option.some.injEq] at a b; subst a; subst b; exact ⟨hk, h⟩
    | succ i => simp only [List.getElem?_cons_succ] at a b; exact hs.2 i q w a b⟩
theorem RepC.cons {Z : Fz} {p : PV} {ps : List PV} {v : Value} {vs : List Value} (hk : p.cell = true) (h : Rep Z p v) (hs : RepC Z ps vs) : RepC Z (p :: ps) (v :: vs) :=
  ⟨by simp [hs.1], fun i q w a b => by
    cases i with
    | zero => simp only [List.getElem?_cons_zero, Option.some.injEq] at a b; subst a; subst b; exact ⟨hk, h⟩
    | succ i => simp only [List.getElem?_cons_succ] at a b; exact hs.2 i q w a b⟩
theorem Reps.inv {Z : Fz} {p : PV} {ps : List PV} {vs : List Value} (h : Reps Z (p :: ps) vs) : ∃ v vs', vs = v :: vs' ∧ p.ok = true ∧ Rep Z p v ∧ Reps Z ps vs' := by
  obtain ⟨hl, h⟩ := h
  cases vs with
  | nil => simp at hl
  | cons v vs => exact ⟨v, vs, rfl, (h 0 p v rfl rfl).1, (h 0 p v rfl rfl).2, by simpa using hl, fun i q w a b => h (i + 1) q w (by simpa using a) (by simpa using b)⟩
theorem RepC.inv {Z : Fz} {p : PV} {ps : List PV} {vs : List Value} (h : RepC Z (p :: ps) vs) : ∃ v vs', vs = v :: vs' ∧ p.cell = true ∧ Rep Z p v ∧ RepC Z ps vs' := by
  obtain ⟨hl, h⟩ := h
  cases vs with
  | nil => simp at hl
  | cons v vs => exact ⟨v, vs, rfl, (h 0 p v rfl rfl).1, (h 0 p v rfl rfl).2, by simpa using hl, fun i q w a b => h (i + 1) q w (by simpa using a) (by simpa using b)⟩
theorem Reps.inv0 {Z : Fz} {vs : List Value} (h : Reps Z [] vs) : vs = [] := List.eq_nil_of_length_eq_zero h.1
theorem RepC.inv0 {Z : Fz} {vs : List Value} (h : RepC Z [] vs) : vs = [] := List.eq_nil_of_length_eq_zero h.1
theorem Reps.append {Z : Fz} {ps qs : List PV} {vs ws : List Value} (h : Reps Z ps vs) (k : Reps Z qs ws) : Reps Z (ps ++ qs) (vs ++ ws) := by
  induction ps generalizing vs with
  | nil => rw [h.inv0]; exact k
  | cons p ps ih => obtain ⟨v, vs', rfl, h1, h2, h3⟩ := h.inv; exact Reps.cons h1 h2 (ih h3)
theorem RepC.append {Z : Fz} {ps qs : List PV} {vs ws : List Value} (h : RepC Z ps vs) (k : RepC Z qs ws) : RepC Z (ps ++ qs) (vs ++ ws) := by
  induction ps generalizing vs with
  | nil => rw [h.inv0]; exact k
  | cons p ps ih => obtain ⟨v, vs', rfl, h1, h2, h3⟩ := h.inv; exact RepC.cons h1 h2 (ih h3)
theorem RepC.take {Z : Fz} {ps : List PV} {vs : List Value} (h : RepC Z ps vs) (n : Nat) : RepC Z (ps.take n) (vs.take n) :=
  ⟨by simp [h.1], fun i p v a b => by
    rw [List.getElem?_take] at a b
    split at a
    · rename_i hi; rw [if_pos hi] at b; exact h.2 i p v a b
    · cases a⟩
theorem RepC.drop {Z : Fz} {ps : List PV} {vs : List Value} (h : RepC Z ps vs) (n : Nat) : RepC Z (ps.drop n) (vs.drop n) :=
  ⟨by simp [h.1], fun i p v a b => by rw [List.getElem?_drop] at a b; exact h.2 _ p v a b⟩
theorem RepC.get {Z : Fz} {ps : List PV} {vs : List Value} (h : RepC Z ps vs) {i : Nat} {p : PV} (hi : ps[i]? = some p) : ∃ v, vs[i]? = some v ∧ p.cell = true ∧ Rep Z p v := by
  have hlt : i < ps.length := (List.getElem?_eq_some_iff.1 hi).1
  have hlt' : i < vs.length := by rw [h.1]; exact hlt
  exact ⟨vs[i], List.getElem?_eq_getElem hlt', h.2 i p _ hi (List.getElem?_eq_getElem hlt')⟩
theorem Reps.get {Z : Fz} {ps : List PV} {vs : List Value} (h : Reps Z ps vs) {i : Nat} {p : PV} (hi : ps[i]? = some p) : ∃ v, vs[i]? = some v ∧ p.ok = true ∧ Rep Z p v := by
  have hlt : i < ps.length := (List.getElem?_eq_some_iff.1 hi).1
  have hlt' : i < vs.length := by rw [h.1]; exact hlt
  exact ⟨vs[i], List.getElem?_eq_getElem hlt', h.2 i p _ hi (List.getElem?_eq_getElem hlt')⟩
theorem RepC.plains {Z : Fz} {ps : List PV} {vs : List Value} (h : RepC Z ps vs) : ∀ v ∈ vs, Eng.plain v = true ∧ one v = true := by
  intro v hv
  obtain ⟨i, hi⟩ := List.mem_iff_getElem?.1 hv
  have hlt : i < ps.length := by rw [← h.1]; exact (List.getElem?_eq_some_iff.1 hi).1
  have := h.2 i ps[i] v (List.getElem?_eq_getElem hlt) hi
  exact this.2.cell this.1
theorem Reps.plains {Z : Fz} {ps : List PV} {vs : List Value} (h : Reps Z ps vs) : ∀ v ∈ vs, Eng.plain v = true := by
  intro v hv
  obtain ⟨i, hi⟩ := List.mem_iff_getElem?.1 hv
  have hlt : i < ps.length := by rw [← h.1]; exact (List.getElem?_eq_some_iff.1 hi).1
  have := h.2 i ps[i] v (List.getElem?_eq_getElem hlt) hi
  exact this.2.plain this.1

/-- The cells of a value. -/
def PV.cells : PV → List PV
  | .agg cs => cs
  | p => [p]

theorem Rep.cells {Z : Fz} {p : PV} {v : Value} (h : Rep Z p v) (hk : p.ok = true) : RepC Z p.cells v.cells.toList := by
  have key : p.cell = true → v.cells = #[v] → p.cells = [p] → RepC Z p.cells v.cells.toList := fun h1 h2 h3 => by rw [h2, h3]; exact RepC.cons h1 h (RepC.nil Z)
  cases h with
  | agg cs vs hl hk2 h => exact ⟨hl, fun i p v a b => ⟨hk2 p (List.mem_of_getElem? a), h i p v a b⟩⟩
  | raw v h1 h2 => exact key rfl (by cases v <;> first | rfl | (simp [one] at h2)) rfl
  | list => exact key rfl rfl rfl
  | fptr => exact key rfl rfl rfl
  | fn => exact key rfl rfl rfl
  | iface => exact key rfl rfl rfl
  | tup ps vs hl h => simp [PV.ok, PV.cell] at hk
  | box k o => simp [PV.ok, PV.cell] at hk
  | poison v => simp [PV.ok, PV.cell] at hk

/-- One by one, whatever they are. -/
def RepM (Z : Fz) (ps : List PV) (vs : List Value) : Prop := vs.length = ps.length ∧ ∀ (i : Nat) p v, ps[i]? = some p → vs[i]? = some v → Rep Z p v

/-- What is there beside: cells; a block whose beginning is frozen, that may be gone on with from n on (it has room for m); a record of the machine; cells that are not written for the time being. -/
inductive Ob where
  | cells (T : TypeId) (cs : List PV)
  | tip (n m : Nat)
  | obj (o : Obj) (F : Nat → PV) (S : Nat → Value)
  | ro (T : TypeId) (cs : List PV)

/-- May it be written? -/
def Ob.rw : Ob → Bool
  | .ro .. => false
  | _ => true

abbrev Mem := Nat → Option Ob
def M0 : Mem := fun _ => none
def Mem.set (μ : Mem) (b : Nat) (o : Option Ob) : Mem := fun c => if c = b then o else μ c
/-- Two memories side by side. -/
def Mem.or (μ ν : Mem) : Mem := fun b => match μ b with | some o => some o | Option.none => ν b
def Mem.sep (μ ν : Mem) : Prop := ∀ b, μ b = Option.none ∨ ν b = Option.none

@[simp] theorem Mem.set_same (μ : Mem) (b : Nat) (o : Option Ob) : μ.set b o b = o := by simp [Mem.set]
theorem Mem.set_ne (μ : Mem) {b c : Nat} (o : Option Ob) (h : c ≠ b) : μ.set b o c = μ c := by simp [Mem.set, h]

def ObOk (Z : Fz) (u : UW) (b : Nat) : Ob → Prop
  | .cells T cs => Z b = none ∧ ∃ A : Array Value, u.heap[b]? = some (.cells A T (0, 0)) ∧ RepM Z cs A.toList
  | .tip n m => (∃ C, Z b = some C ∧ C.length = n) ∧ ∃ (A : Array Value) (T : TypeId), u.heap[b]? = some (.cells A T (0, 0)) ∧ m ≤ A.size
  | .obj o F S => Z b = none ∧ u.heap[b]? = some o ∧ ∀ t, Rep Z (F t) (S t)
  | .ro T cs => Z b = none ∧ ∃ A : Array Value, u.heap[b]? = some (.cells A T (0, 0)) ∧ RepM Z cs A.toList

/-- The frozen, what can be written, and the engine's world. -/
structure Good (Z : Fz) (u : UW) (μ : Mem) : Prop where
  zok : ∀ b C, Z b = some C → ∃ A T f, u.heap[b]? = some (.cells A T f) ∧ C <+: A.toList
  mem : ∀ b o, μ b = some o → (o.rw = true → u.pub b) ∧ ObOk Z u b o

theorem ObOk.lt {Z : Fz} {u : UW} {b : Nat} {o : Ob} (h : ObOk Z u b o) : b < u.heap.size := by
  cases o with
  | cells T cs => obtain ⟨_, A, h, _⟩ := h; exact (Array.getElem?_eq_some_iff.1 h).1
  | tip n m => obtain ⟨_, A, T, h, _⟩ := h; exact (Array.getElem?_eq_some_iff.1 h).1
  | obj o F S => exact (Array.getElem?_eq_some_iff.1 h.2.1).1
  | ro T cs => obtain ⟨_, A, h, _⟩ := h; exact (Array.getElem?_eq_some_iff.1 h).1

theorem Good.ltZ {Z : Fz} {u : UW} {μ : Mem} (h : Good Z u μ) {b : Nat} (hb : Z b ≠ none) : b < u.heap.size := by
  cases hz : Z b with
  | none => exact absurd hz hb
  | some C => obtain ⟨A, T, f, h, _⟩ := h.zok b C hz; exact (Array.getElem?_eq_some_iff.1 h).1

theorem Good.ltM {Z : Fz} {u : UW} {μ : Mem} (h : Good Z u μ) {b : Nat} (hb : μ b ≠ none) : b < u.heap.size := by
  cases hz : μ b with
  | none => exact absurd hz hb
  | some o => exact (h.mem b o hz).2.lt

/-- From one moment to a later one: N blocks were there. -/
structure Ext (Z : Fz) (μ : Mem) (N : Nat) (Z' : Fz) (μ' : Mem) : Prop where
  le : Z.le Z'
  zs : ∀ b C, Z b = some C → μ b = none → Z' b = some C
  zn : ∀ b, Z' b ≠ none → Z b ≠ none ∨ μ b ≠ none ∨ N ≤ b
  mn : ∀ b, μ' b ≠ none → μ b ≠ none ∨ N ≤ b
  lt : ∀ b, Z b ≠ none → b < N

theorem Good.ext {Z : Fz} {u : UW} {μ : Mem} (h : Good Z u μ) : Ext Z μ u.heap.size Z μ := ⟨Fz.le.refl _, fun _ _ h _ => h, fun _ h => .inl h, fun _ h => .inl h, fun _ h' => h.ltZ h'⟩

theorem Ext.trans {Z Z' Z'' : Fz} {μ μ' μ'' : Mem} {N N' : Nat} (h : Ext Z μ N Z' μ') (k : Ext Z' μ' N' Z'' μ'') (hN : N ≤ N') : Ext Z μ N Z'' μ'' := by
  refine ⟨h.le.trans k.le, fun b C hz hm => ?_, fun b hb => ?_, fun b hb => ?_, h.lt⟩
  · refine k.zs b C (h.zs b C hz hm) ?_
    cases hx : μ' b with
    | none => rfl
    | some o =>
      have hl := h.lt b (by rw [hz]; simp)
      rcases h.mn b (by rw [hx]; simp) with h1 | h1
      · exact absurd hm h1
      · omega
  · rcases k.zn b hb with h1 | h1 | h1
    · exact h.zn b h1
    · exact .inr (h.mn b h1)
    · exact .inr (.inr (by omega))
  · rcases k.mn b hb with h1 | h1
    · exact h.mn b h1
    · exact .inr (by omega)

/-- Something is let go. -/
def Mem.sub (μ' μ : Mem) : Prop := ∀ b o, μ' b = some o → μ b = some o
theorem Good.sub {Z : Fz} {u : UW} {μ μ' : Mem} (h : Good Z u μ) (hs : μ'.sub μ) : Good Z u μ' := ⟨h.zok, fun b o e => h.mem b o (hs b o e)⟩

end Go.Eng

/-
  What a piece of code asks of plain values (V), by recursion on the code.
-/
namespace Go.Eng
open Go.RowKit

/-! ### kinds -/
inductive KV where
  | raw (k : K1)
  | list (sz : Nat)
  | fn
  deriving DecidableEq, Inhabited

@[reducible] def KV.T : KV → Type
  | .raw k => k.T
  | .list _ => Fl × List (List PV)
  | .fn => Fn × List PV × List PV

def KV.p : (k : KV) → k.T → PV
  | .raw k, x => .raw (k.v x)
  | .list sz, x => .list sz x.1 x.2
  | .fn, x => .fn x.1 x.2.1 x.2.2

def nilRow : Fl → List (List PV) → Option (Fl × List (List PV))
  | .nil, [] => some (.nil, [])
  | _, _ => none

def KV.get : (k : KV) → PV → Option k.T
  | .raw k, .raw v => k.get v
  | .raw .slice, .list _ .nil _ => some (none, 0, 0)
  | .list sz, .list sz' fl rows => bif Nat.beq sz sz' then some (fl, rows) else nilRow fl rows
  | .fn, .fn f a b => some (f, a, b)
  | _, _ => none

def KV.er : KV → K1
  | .raw k => k
  | .list _ => .slice
  | .fn => .fn

def exKV : KV → (PV → Prop) → Prop
  | .raw k, F => exK k fun v => F (.raw v)
  | .list sz, F => ∃ (fl : Fl) (rows : List (List PV)), F (.list sz fl rows)
  | .fn, F => ∃ (f : Fn) (a b : List PV), F (.fn f a b)

def exLV : List KV → (List PV → Prop) → Prop
  | [], F => F []
  | k :: ks, F => exKV k fun v => exLV ks fun vs => F (v :: vs)

inductive KdP where
  | one (k : KV)
  | agg (ks : List KV)
  | box (ks : List KV)
  deriving DecidableEq, Inhabited

def KdP.er : KdP → Kd
  | .one k => .one k.er
  | .agg ks => .agg (ks.map KV.er)
  | .box ks => .box (ks.map KV.er)

@[reducible] def TLP : List KV → Type
  | [] => Unit
  | [k] => k.T
  | k :: k' :: ks => k.T × TLP (k' :: ks)

def TLPv : (ks : List KV) → TLP ks → List PV
  | [], _ => []
  | [k], x => [k.p x]
  | k :: k' :: ks, x => k.p x.1 :: TLPv (k' :: ks) x.2

def TLPget : (ks : List KV) → List PV → Option (TLP ks)
  | [], [] => some ()
  | [k], [v] => k.get v
  | k :: k' :: ks, v :: vs => match k.get v, TLPget (k' :: ks) vs with
    | some x, some y => some (x, y)
    | _, _ => none
  | _, _ => none

@[reducible] def KdP.T : KdP → Type
  | .one k => k.T
  | .agg ks => TLP ks
  | .box ks => TLP ks

abbrev LiveP := List (Nat × KdP)
def LiveP.er (l : LiveP) : Live := l.map fun x => (x.1, x.2.er)

@[reducible] def TupP : LiveP → Type
  | [] => Unit
  | [x] => x.2.T
  | x :: y :: l => x.2.T × TupP (y :: l)

/-! ### states -/
abbrev FrP := Nat → PV
structure PSt where
  σ : FrP
  D : List (Nat × Nat)

def updP (σ : FrP) (t : Nat) (v : PV) : FrP := fun i => bif Nat.beq i t then v else σ i
def putP (σ : FrP) (d : Option Nat) (v : PV) : FrP := match d with | some t => updP σ t v | none => σ
def wrGP (σ : FrP) (k : Nat) : Nat → List PV → FrP
  | _, [] => σ
  | j, v :: vs => wrGP (updP σ (gx k j) v) k (j + 1) vs
def rdGP (σ : FrP) (k : Nat) : Nat → Nat → List PV
  | _, 0 => []
  | j, m + 1 => σ (gx k j) :: rdGP σ k (j + 1) m

def getD1P (st : PSt) : (x : Nat × KdP) → Option x.2.T
  | (t, .one k) => k.get (st.σ t)
  | (t, .agg ks) => match st.σ t with
    | .agg a => TLPget ks a
    | _ => none
  | (t, .box ks) => match st.σ t with
    | .box k o => bif (Nat.beq k t && Nat.beq o 0) && hasBox st.D t ks.length then TLPget ks (rdGP st.σ t 0 ks.length) else none
    | _ => none

def getLiveP (st : PSt) : (l : LiveP) → Option (TupP l)
  | [] => some ()
  | [x] => getD1P st x
  | x :: y :: l => match getD1P st x, getLiveP st (y :: l) with
    | some a, some b => some (a, b)
    | _, _ => none

def setD1P (st : PSt) : (x : Nat × KdP) → x.2.T → PSt
  | (t, .one k), v => { st with σ := updP st.σ t (k.p v) }
  | (t, .agg ks), v => { st with σ := updP st.σ t (.agg (TLPv ks v)) }
  | (t, .box ks), v => { st with σ := wrGP (updP st.σ t (.box t 0)) t 0 (TLPv ks v), D := bif hasBox st.D t ks.length then st.D else (t, ks.length) :: st.D }

def setLiveP (st : PSt) : (l : LiveP) → TupP l → PSt
  | [], _ => st
  | [x], v => setD1P st x v
  | x :: y :: l, v => setLiveP (setD1P st x v.1) (y :: l) v.2

structure CutP where
  live : LiveP
  scrap : List (Nat × Nat)

def CutP.er (c : CutP) : Cut := ⟨c.live.er, c.scrap⟩

def scrapGP (σ : FrP) : List (Nat × Nat) → FrP
  | [] => σ
  | (k, m) :: l => scrapGP (wrGP (updP σ k (.box k 0)) k 0 (List.replicate m .poison)) l

def isBoxP (v : PV) (k : Nat) : Bool :=
  match v with
  | .box k' o => Nat.beq k' k && Nat.beq o 0
  | _ => false

def scrapOkP (st : PSt) : List (Nat × Nat) → Bool
  | [] => true
  | (k, m) :: l => hasBox st.D k m && isBoxP (st.σ k) k && scrapOkP st l

def poisP (σ : FrP) (ws : List Nat) : FrP := fun t => bif Nat.blt t 65536 && memN ws t then .poison else σ t

def mixP (st : PSt) (ws : List Nat) (c : CutP) (x : TupP c.live) : PSt :=
  setLiveP { st with σ := scrapGP (poisP st.σ ws) c.scrap } c.live x

/-! ### types -/
def kindsVF (P : Program) (r : Bool) : Nat → TypeId → Option (List KV)
  | 0, _ => none
  | f + 1, t => match P.underlying t with
    | some (.int k) => some [.raw (.int k)]
    | some .bool => some [.raw .bool]
    | some .string => some [.raw .str]
    | some (.slice e) => some [bif r then .raw .slice else .list (P.cellsOf e)]
    | some (.pointer _) => some [.raw .ptr]
    | some (.func ..) => some [.fn]
    | some (.map ..) => some [.raw .map]
    | some (.struct fs) => fs.toList.foldr (fun x acc => match kindsVF P r f x.type, acc with | some a, some b => some (a ++ b) | _, _ => none) (some [])
    | some (.array n e) => match kindsVF P r f e with
      | some ks => some ((List.replicate n ks).flatten)
      | none => none
    | _ => none

def kindsV (P : Program) (r : Bool) (t : TypeId) : Option (List KV) :=
  match kindsVF P r 8 t with
  | some ks => bif Nat.beq ks.length (P.cellsOf t) then (bif aggT P t || Nat.beq ks.length 1 then some ks else none) else none
  | none => none

def mkP : Bool → List PV → PV
  | true, vs => .agg vs
  | false, [v] => v
  | _, _ => .poison

def exVP (P : Program) (r : Bool) (t : TypeId) (F : PV → Prop) : Prop :=
  match kindsV P r t with
  | some ks => exLV ks fun vs => F (mkP (aggT P t) vs)
  | none => False

def exVsP (P : Program) (r : Bool) : List TypeId → (List PV → Prop) → Prop
  | [], F => F []
  | t :: ts, F => exVP P r t fun v => exVsP P r ts fun vs => F (v :: vs)

def exRP (P : Program) (r : Bool) (t : TypeId) (F : PV → Prop) : Prop :=
  match P.underlying t with
  | some (.tuple ts) => exVsP P r ts.toList fun vs => F (.tup vs)
  | _ => exVP P r t F

/-! ### constants -/
def ofV1 : Value → PV
  | .slice none 0 0 => .list 0 .nil []
  | .slice .. | .agg _ | .tuple _ | .complex .. | .iface .. => .poison
  | .func f a b => bif Nat.beq a.size 0 && Nat.beq b.size 0 then .fn f [] [] else .poison
  | v => .raw v

def allCell (ps : List PV) : Bool := ps.all PV.cell
def allOk (ps : List PV) : Bool := ps.all PV.ok

def ofV : Value → PV
  | .agg a => bif allCell (a.toList.map ofV1) then .agg (a.toList.map ofV1) else .poison
  | .tuple a => bif allOk (a.toList.map ofV1) then .tup (a.toList.map ofV1) else .poison
  | v => ofV1 v

/-- A list of no rows, of its size. -/
def nrm (sz : Nat) : PV → PV
  | .list 0 fl [] => .list sz fl []
  | p => p

def nrms : List KV → List PV → List PV
  | .list sz :: ks, p :: ps => nrm sz p :: nrms ks ps
  | _ :: ks, p :: ps => p :: nrms ks ps
  | _, ps => ps

def nrmT (P : Program) (t : TypeId) (p : PV) : PV :=
  match kindsV P false t with
  | some ks => match p with
    | .agg cs => .agg (nrms ks cs)
    | .list 0 fl [] => match ks with
      | [.list sz] => .list sz fl []
      | _ => p
    | p => p
  | none => p

def evP (σ : FrP) : Operand → PV
  | .tmp t => σ t
  | .const v => ofV v
  | .global g => pP g 0
  | .func f => .fn (.func f) [] []

/-- What is known of a list's place is forgotten. -/
def wk1 : PV → PV
  | .list sz _ rows => .list sz .sh rows
  | p => p
def wk2 : PV → PV
  | .agg cs => .agg (cs.map wk1)
  | p => p
def wk : PV → PV
  | .agg cs => .agg (cs.map wk1)
  | .tup vs => .tup (vs.map fun p => wk2 (wk1 p))
  | p => wk1 p

/-- An argument, as it is handed over. -/
def argP (P : Program) (t : TypeId) (p : PV) : PV := wk2 (nrmT P t p)

def argsP (P : Program) : List TypeId → List PV → List PV
  | t :: ts, p :: ps => argP P t p :: argsP P ts ps
  | _, ps => ps

/-! ### memory -/
def rdM (μ : Mem) (b o n : Nat) : Option (List PV) :=
  match μ b with
  | some (.cells _ cs) => if o + n ≤ cs.length then some ((cs.drop o).take n) else none
  | some (.ro _ cs) => if o + n ≤ cs.length then some ((cs.drop o).take n) else none
  | _ => none

def rowM (row : List PV) (o n : Nat) : Option (List PV) := if o + n ≤ row.length ∧ 0 < n then some ((row.drop o).take n) else none

def wrL (cs : List PV) (o : Nat) (vs : List PV) : List PV := cs.take o ++ vs ++ cs.drop (o + vs.length)

def stM (b o : Nat) (vs : List PV) (μ : Mem) (K : Mem → Prop) : Prop :=
  ∃ (T : TypeId) (cs : List PV), μ b = some (.cells T cs) ∧ o + vs.length ≤ cs.length ∧ K (μ.set b (some (.cells T (wrL cs o vs))))

def withPtrP (v : PV) (F : Nat → Nat → Prop) : Prop :=
  match v with
  | .raw (.pointer (some ⟨b, o, none⟩)) => F b o
  | _ => False

/-! ### calls -/
/-- Function g, called with these, hands back p and leaves a memory, so that K. -/
def CallP (P : Program) (g : FuncId) (args : List PV) (μ : Mem) (K : PV → Mem → Prop) : Prop :=
  ∀ (Z : Fz) (u : UW) (vs : List Value), Good Z u μ → (∀ b, u.pub b → b < u.heap.size) → Reps Z args vs → callable P g = true ∧ CallF P g vs.toArray u fun v u' => ∃ Z' μ' p, Ext Z μ u.heap.size Z' μ' ∧ Good Z' u' μ' ∧ Rep Z' p v ∧ K p μ'

/-- The same, of one that writes nothing that was there; what is new, beside. -/
def CallQ (P : Program) (g : FuncId) (args : List PV) (μ : Mem) (K : PV → Mem → Prop) : Prop :=
  ∀ (Z : Fz) (u : UW) (vs : List Value), Good Z u μ → (∀ b, u.pub b → b < u.heap.size) → Reps Z args vs → callable P g = true ∧ CallF P g vs.toArray ⟨u.toWorld, fun _ => False⟩ fun v u' => ∃ Z' μ' p, Ext Z M0 u.heap.size Z' μ' ∧ Good Z' u' μ' ∧ Rep Z' p v ∧ K p μ'

/-- A function value. -/
def CallVS (P : Program) (f : PV) (args : List PV) (μ : Mem) (K : PV → Mem → Prop) : Prop :=
  ∀ (Z : Fz) (u : UW) (fv : Value) (vs : List Value), Good Z u μ → (∀ b, u.pub b → b < u.heap.size) → Rep Z f fv → Reps Z args vs → CallV P fv vs u fun v u' => ∃ Z' μ' p, Ext Z μ u.heap.size Z' μ' ∧ Good Z' u' μ' ∧ Rep Z' p v ∧ K p μ'

def CallVP (P : Program) (f : PV) (args : List PV) (μ : Mem) (K : PV → Mem → Prop) : Prop :=
  match f with
  | .fn (.func g) first caps => CallP P g (first ++ args ++ caps) μ K
  | f => CallVS P f args μ K

def CallD (P : Program) (q : Bool) (f : PV) (args : List PV) (μ : Mem) (K : PV → Mem → Prop) : Prop :=
  bif q then (match f with
    | .fn (.func g) first caps => CallQ P g (first ++ args ++ caps) μ (fun p μ' => K p (μ.or μ'))
    | _ => False) else CallVP P f args μ K

/-- A loop over a function. -/
def RangeP (P : Program) (f : PV) (body : List PV → (Option Code → Mem → Prop) → Mem → Prop) (K : Option Code → Mem → Prop) (μ : Mem) : Prop :=
  (∃ g a b, f = .fn (.func g) a b) ∧ ∀ (l : Nat) (rec : Option Code → Ob), μ l = none →
    (∀ (vs : List PV) (μ1 : Mem) (R : Option Code → Mem → Prop), μ1 l = none → body vs R μ1 →
      CallVP P (.fn (.yield l) [] []) vs (μ1.set l (some (rec none))) fun v μ2 => ∃ p μ3, v = pB p.isNone ∧ μ3 l = none ∧ μ2 = μ3.set l (some (rec p)) ∧ R p μ3) →
    CallVP P f [.fn (.yield l) [] []] (μ.set l (some (rec none))) fun _ μ2 => ∃ p μ3, μ3 l = none ∧ μ2 = μ3.set l (some (rec p)) ∧ K p μ3

/-! ### operations -/
structure EnvP where
  P : Program
  n : Nat
  priv : List Nat
  loops : List (Nat × CutP)
  joins : List (Nat × CutP)
  rngs : List (Nat × List TypeId)
  cst : List Nat
  wrt : List Nat
  raws : List Nat

def EnvP.er (E : EnvP) : Env := ⟨E.P, E.n, E.priv, E.loops.map fun x => (x.1, x.2.er), E.joins.map fun x => (x.1, x.2.er), E.rngs⟩

def finP (o : Oper) (st : PSt) (v : PV) : PSt := { st with σ := putP st.σ o.dst v }

def bldSP (P : Program) (fs : Array Field) : List (Nat × PV) → List PV → Option (List PV)
  | [], cs => some cs
  | (i, v) :: ps, cs => match fs[i]? with
    | some f => bif Nat.beq v.cells.length (P.cellsOf f.type) && Nat.ble (f.offset + v.cells.length) cs.length && (P.info? f.type).isSome then
        bldSP P fs ps (cs.take f.offset ++ v.cells ++ cs.drop (f.offset + v.cells.length)) else none
    | none => none

def zeroP (P : Program) (t : TypeId) (z : Value) : PV := nrmT P t (ofV z)

/-- A slice out of all its parts, in order. -/
def bldLP (size : Nat) : Nat → List (Nat × PV) → Option (List (List PV))
  | _, [] => some []
  | i, (j, v) :: ps => bif Nat.beq i j && Nat.beq v.cells.length size then (match bldLP size (i + 1) ps with | some l => some (v.cells.map wk1 :: l) | none => none) else none

def bldP (P : Program) (t : TypeId) (ps : List (Nat × PV)) : Option (List PV) :=
  match (P.info? t).bind (·.zero), P.underlying t with
  | some z, some (.struct fs) => bif (zeroP P t z).ok && aggT P t && fs.toList.all fun f => (P.info? f.type).isSome then
      (match zeroP P t z with
      | .agg cs => bldSP P fs (ps.map fun p => (p.1, match fs[p.1]? with | some f => nrmT P f.type p.2 | none => p.2)) cs
      | _ => none) else none
  | some z, some (.array len e) => bif (P.info? e).isSome && Nat.beq ps.length len && Nat.beq z.cells.size (len * P.cellsOf e) then
      (match bldLP (P.cellsOf e) 0 (ps.map fun p => (p.1, nrmT P e p.2)) with
      | some rows => some rows.flatten
      | none => none) else none
  | _, _ => none

/-- An element of an array. -/
def eltP (P : Program) (e : TypeId) (off : Nat) (cs : List PV) : Option PV :=
  bif (P.underlying e).isSome && Nat.ble (off + P.cellsOf e) cs.length then (bif aggT P e then some (.agg ((cs.drop off).take (P.cellsOf e))) else cs[off]?) else none

def fldP (P : Program) (t : TypeId) (f : Nat) (cs : List PV) : Option PV :=
  match P.underlying t with
  | some (.struct fs) => match fs[f]? with
    | some x => bif (P.underlying x.type).isSome && Nat.ble (x.offset + P.cellsOf x.type) cs.length then
        (bif aggT P x.type then some (.agg ((cs.drop x.offset).take (P.cellsOf x.type))) else cs[x.offset]?) else none
    | none => none
  | _ => none

def optIntP (ρ : Operand → PV) (x : Option Operand) (d : Int) : Option Int :=
  match x with
  | none => some d
  | some x => match ρ x with
    | .raw (.int _ i) => some i
    | _ => none

def okSz (size sz : Nat) (rows : List (List PV)) : Bool := bif Nat.beq sz size then true else (match rows with | [] => true | _ => false)

def appN (rows : List (List PV)) (A B : Prop) : Prop := match rows with | [] => A | _ :: _ => B

/-- append of something to a list: its new place. -/
def appF (q : Bool) (size : Nat) (fl : Fl) (n m : Nat) (μ : Mem) (K : Fl → Mem → Prop) : Prop :=
  match fl with
  | .nr => ∀ b c, μ b = none → n + m ≤ c → K (.tip b c) (μ.set b (some (.tip ((n + m) * size) (c * size))))
  | .nil => ∀ b c, μ b = none → n + m ≤ c → K (.tip b c) (μ.set b (some (.tip ((n + m) * size) (c * size))))
  | .tip b c => bif q then False else μ b = some (.tip (n * size) (c * size)) ∧ ∀ b' c', (b' = b ∨ μ b' = none) → n + m ≤ c' →
      K (.tip b' c') ((μ.set b none).set b' (some (.tip ((n + m) * size) (c' * size))))
  | .sh => False

def appL (q : Bool) (size bytes : Nat) (fl : Fl) (rows new : List (List PV)) (μ : Mem) (K : Fl → Mem → Prop) : Prop :=
  (rows.length + new.length) * bytes ≤ 140737488355328 ∧ rows.length + new.length < 4611686018427387904 ∧ appN new (K fl μ) (appF q size fl rows.length new.length μ K)

/-- What is appended: cells. -/
def newC (size : Nat) (μ : Mem) (y : PV) (F : Nat → List PV → Prop) : Prop :=
  match y with
  | .list sz _ rows => bif okSz size sz rows then F rows.length rows.flatten else False
  | .raw (.slice (some ⟨b, o, none⟩) m _) => ∃ cs, rdM μ b o (m * size) = some cs ∧ F m cs
  | _ => False

/-- append to a slice of one's own cells. -/
def appR (size bytes : Nat) (e : TypeId) (a : Option Addr) (n c : Nat) (y : PV) (μ : Mem) (K : Option Addr → Nat → Nat → Mem → Prop) : Prop :=
  newC size μ y fun m new => (n + m) * bytes ≤ 140737488355328 ∧ n + m < 4611686018427387904 ∧ n ≤ c ∧ ((m = 0 ∧ (n ≠ 0 → ∃ b o old, a = some ⟨b, o, none⟩ ∧ rdM μ b o (n * size) = some old) ∧ K a n c μ) ∨ (m ≠ 0 ∧ allCell new = true ∧
    (n + m ≤ c → ∃ b o T cs, a = some ⟨b, o, none⟩ ∧ μ b = some (.cells T cs) ∧ o + c * size ≤ cs.length ∧ K a (n + m) c (μ.set b (some (.cells T (wrL cs (o + n * size) new))))) ∧
    (c < n + m → ∃ old, ((n = 0 ∧ old = []) ∨ ∃ b o, a = some ⟨b, o, none⟩ ∧ rdM μ b o (n * size) = some old) ∧ ∀ b' c', μ b' = none → n + m ≤ c' → K (some ⟨b', 0, none⟩) (n + m) c' (μ.set b' (some (.cells e (old ++ new ++ List.replicate ((c' - (n + m)) * size) .poison)))))))

def cAppP (P : Program) (q : Bool) (e : TypeId) (x y : PV) (μ : Mem) (K : PV → Mem → Prop) : Prop :=
  match (P.info? e).map (fun i => (i.size, i.bytes, i.zero.map fun z => z.cells.toList.length)) with
  | some (size, bytes, some zl) => bif Nat.beq zl size && !Nat.beq size 0 then (match x, y with
    | .list sz fl rows, .list sz' _ new => bif okSz size sz rows && okSz size sz' new then appL q size bytes fl rows new μ fun fl' μ' => K (.list size fl' (rows ++ new)) μ' else False
    | .raw (.slice a n c), y => bif q then False else appR size bytes e a n c y μ fun a' n' c' μ' => K (.raw (.slice a' n' c')) μ'
    | _, _ => False) else False
  | _ => False

def unraw : List PV → Option (List Value)
  | [] => some []
  | .raw v :: ps => match unraw ps with | some vs => some (v :: vs) | none => none
  | _ => none

def cBinP (P : Program) (op : BinOp) (t : TypeId) (x y : PV) (K : PV → Prop) : Prop :=
  match x, y with
  | .raw a, .raw b => cBin P op t a b fun v => K (.raw v)
  | .agg a, .agg b => match unraw a, unraw b with
    | some a, some b => cBin P op t (.agg a.toArray) (.agg b.toArray) fun v => K (.raw v)
    | _, _ => False
  | .fn f _ _, .raw .nilFunc => cBin P op t (.func f #[] #[]) .nilFunc fun v => K (.raw v)
  | _, _ => False

def intsP (ρ : Operand → PV) : List Operand → Option (IntKind × List Int)
  | [] => none
  | [x] => match ρ x with | .raw (.int k i) => some (k, [i]) | _ => none
  | x :: l => match ρ x, intsP ρ l with
    | .raw (.int k i), some (k', is) => bif decide (k = k') then some (k, i :: is) else none
    | _, _ => none

/-- nil, as a slice of one's own. -/
def toRaw (r : Bool) (p : PV) : PV := bif r then (match p with | .list _ .nil _ => .raw (.slice none 0 0) | p => p) else p

def rawX (E : EnvP) (x : Operand) : Bool := match x with | .tmp a => memN E.raws a | _ => false
def rawO (E : EnvP) (o : Oper) : Bool := match o.dst with | some d => memN E.raws d | none => false
def wrtO (E : EnvP) (o : Oper) : Bool := match o.dst with | some d => memN E.wrt d | none => false

def V1b (E : EnvP) (q : Bool) (o : Oper) (st : PSt) (μ : Mem) (b : Builtin) (args : List Operand) (ts : List TypeId) (K : PSt → Mem → Prop) : Prop :=
  match b, args, ts with
  | .len, [x], [t] => match E.P.underlying t, evP st.σ x with
    | some (.slice _), .list _ _ rows => K (finP o st (pI rows.length)) μ
    | some (.slice _), .raw (.slice _ n _) => K (finP o st (pI n)) μ
    | some .string, .raw (.string s) => K (finP o st (pI s.size)) μ
    | some (.array n _), v => bif v.ok then K (finP o st (pI n)) μ else False
    | _, _ => False
  | .append, [x, y], [t, t'] => match E.P.underlying t, E.P.underlying t' with
    | some (.slice e), some (.slice _) => cAppP E.P q e (toRaw (rawO E o) (evP st.σ x)) (evP st.σ y) μ fun p μ' => K (finP o st p) μ'
    | _, _ => False
  | .min, xs, _ => match intsP (evP st.σ) xs with
    | some (k, i :: is) => K (finP o st (.raw (.int k (is.foldl (fun x y => if y < x then y else x) i)))) μ
    | _ => False
  | .max, xs, _ => match intsP (evP st.σ) xs with
    | some (k, i :: is) => K (finP o st (.raw (.int k (is.foldl (fun x y => if y > x then y else x) i)))) μ
    | _ => False
  | _, _, _ => False

/-- A new block, in one of three ways. -/
def newB (E : EnvP) (q : Bool) (fz : List Nat) (o : Oper) (st : PSt) (μ : Mem) (t : TypeId) (cs : List PV) (K : PSt → Mem → Prop) : Prop :=
  match o.dst with
  | none => False
  | some k => bif memN E.priv k then
      (bif !q && (!isBox st.D k && !memN fz k && allCell cs && Nat.ble cs.length 65536) then K { st with σ := wrGP (updP st.σ k (.box k 0)) k 0 cs, D := (k, cs.length) :: st.D } μ else False)
    else bif memN E.cst k then (bif allCell cs then K (finP o st (.fptr (cs.map wk1) 0)) μ else False)
    else ∀ b, μ b = none → K (finP o st (pP b 0)) (μ.set b (some (.cells t cs)))

/-- One operation. -/
def V1 (E : EnvP) (q : Bool) (fz : List Nat) (o : Oper) (st : PSt) (μ : Mem) (K : PSt → Mem → Prop) : Prop :=
  let ρ := evP st.σ
  let r := rawO E o
  match o.op with
  | .move x | .assign x => K (finP o st (nrmT E.P o.type (ρ x))) μ
  | .pick c a b => match ρ c with
    | .raw (.bool t) => CIf t (K (finP o st (nrmT E.P o.type (ρ a))) μ) (K (finP o st (nrmT E.P o.type (ρ b))) μ)
    | _ => False
  | .alloc t => match (E.P.info? t).bind (·.zero) with
    | none => False
    | some z => bif (zeroP E.P t z).ok then newB E q fz o st μ t ((zeroP E.P t z).cells.map (toRaw r)) K else False
  | .box t x => bif (ρ x).ok then newB E q fz o st μ t ((nrmT E.P t (ρ x)).cells.map (toRaw r)) K else False
  | .build t ps => bif ps.toList.all fun p => (ρ p.2).ok then match bldP E.P t (ps.toList.map fun p => (p.1, ρ p.2)) with
      | some vs => K (finP o st (.agg vs)) μ
      | none => False else False
  | .buildSlice t len ps => bif (ps.toList.all fun p => (ρ p.2).ok) && Nat.beq ps.toList.length len then match elemT E.P t with
      | none => False
      | some e => match bldLP (E.P.cellsOf e) 0 (ps.toList.map fun p => (p.1, nrmT E.P e (ρ p.2))) with
        | some rows => bif Nat.ble rows.flatten.length 65536 && ((E.P.info? e).bind (·.zero)).isSome && !Nat.beq (E.P.cellsOf e) 0 then
            (bif wrtO E o then ∀ b, μ b = none → K (finP o st (.raw (.slice (some ⟨b, 0, none⟩) len len))) (μ.set b (some (.cells e (rows.flatten.map (toRaw r)))))
            else K (finP o st (.list (E.P.cellsOf e) .nr rows)) μ) else False
        | none => False else False
  | .load t x => match kindsV E.P r t with
    | none => False
    | some ks => match ρ x with
      | .box k off => match boxSize st.D k with
        | some m => bif Nat.ble (off + ks.length) m && allCell (rdGP st.σ k off ks.length) then K (finP o st (mkP (aggT E.P t) (rdGP st.σ k off ks.length))) μ else False
        | none => False
      | .fptr row off => exLV ks fun vs => rowM row off ks.length = some vs ∧ K (finP o st (mkP (aggT E.P t) vs)) μ
      | v => withPtrP v fun b off => exLV ks fun vs => rdM μ b off ks.length = some vs ∧ K (finP o st (mkP (aggT E.P t) vs)) μ
  | .store t x y => bif (ρ y).ok && Nat.beq (nrmT E.P t (ρ y)).cells.length (E.P.cellsOf t) && (E.P.info? t).isSome then match ρ x with
      | .box k off => match boxSize st.D k with
        | some m => bif Nat.ble (off + (nrmT E.P t (ρ y)).cells.length) m && !memN fz k then K { st with σ := putP (wrGP st.σ k off (nrmT E.P t (ρ y)).cells) o.dst (.tup []) } μ else False
        | none => False
      | v => bif q then False else withPtrP v fun b off => stM b off ((nrmT E.P t (ρ y)).cells.map (toRaw (rawX E x))) μ fun μ' => K (finP o st (.tup [])) μ'
      else False
  | .nilCheck x => match ρ x with
    | .box k off => K (finP o st (.box k off)) μ
    | .fptr row off => K (finP o st (.fptr row off)) μ
    | .raw (.pointer a) => nn a (K (finP o st (.raw (.pointer a))) μ)
    | .fn f a b => fnOk f (K (finP o st (.fn f a b)) μ)
    | _ => False
  | .binOp op t x y _ => cBinP E.P op t (ρ x) (ρ y) fun v => K (finP o st v) μ
  | .unOp op _ x => match op, ρ x with
    | .not, .raw (.bool b) => K (finP o st (pB (!b))) μ
    | .neg, .raw (.int k n) => K (finP o st (.raw (.int k (k.wrap (0 - n))))) μ
    | _, _ => False
  | .convert src dst x => match ρ x with
    | .raw v => match pv E.P (convert src dst v) with
      | some v' => bif plain v' && one v' then K (finP o st (.raw v')) μ else False
      | none => False
    | _ => False
  | .makeInterface t x => bif (ρ x).ok && (match E.P.underlying t with | some (.interface _) => false | some _ => true | none => false) then K (finP o st (.iface t (ρ x))) μ else False
  | .makeSlice t x y => match E.P.underlying t, ρ x, ρ y with
    | some (.slice e), .raw (.int _ i), .raw (.int _ j) => match (E.P.info? e).map (fun i => (i.size, i.bytes, i.zero.map fun z => (zeroP E.P e z).cells)) with
      | some (size, bytes, some zero) => bif Nat.beq zero.length size && !Nat.beq size 0 && allCell zero then
          0 ≤ i ∧ i ≤ j ∧ j < 4611686018427387904 ∧ j.toNat * bytes ≤ 140737488355328 ∧
          ∀ b, μ b = none → K (finP o st (.raw (.slice (some ⟨b, 0, none⟩) i.toNat j.toNat))) (μ.set b (some (.cells e (List.replicate j.toNat zero).flatten))) else False
      | _ => False
    | _, _, _ => False
  | .makeFunc fn first captured => bif first.toList.all (fun x => (ρ x).ok) && captured.toList.all (fun x => (ρ x).ok) then
      K (finP o st (.fn fn (first.toList.map fun x => wk (ρ x)) (captured.toList.map fun x => wk (ρ x)))) μ else False
  | .slice t x lo hi mx => match E.P.underlying t, ρ x with
    | some (.slice e), .list sz _ rows => match optIntP ρ lo 0, optIntP ρ hi rows.length, optIntP ρ mx rows.length with
      | some l, some h, some m => bif (mx.isSome && hi.isNone) || (E.P.info? e).isNone || !okSz (E.P.cellsOf e) sz rows then False else
          match mx with
          | none => 0 ≤ l ∧ l ≤ h ∧ h ≤ rows.length ∧ K (finP o st (.list (E.P.cellsOf e) .sh ((rows.take h.toNat).drop l.toNat))) μ
          | some _ => 0 ≤ l ∧ l ≤ h ∧ h ≤ rows.length ∧ m = h ∧ K (finP o st (.list (E.P.cellsOf e) .nr ((rows.take h.toNat).drop l.toNat))) μ
      | _, _, _ => False
    | some (.slice e), .raw (.slice a len cap) => match optIntP ρ lo 0, optIntP ρ hi len, optIntP ρ mx cap with
      | some l, some h, some m => (bif (mx.isSome && hi.isNone) || (E.P.info? e).isNone then False else noSpot a ∧ 0 ≤ l ∧ l ≤ h ∧ h ≤ m ∧ m ≤ cap ∧ K (finP o st (.raw (.slice (slA a l.toNat m.toNat (E.P.cellsOf e)) (h.toNat - l.toNat) (m.toNat - l.toNat)))) μ)
      | _, _, _ => False
    | some .string, .raw (.string s) => match mx with
      | some _ => False
      | none => match optIntP ρ lo 0, optIntP ρ hi s.size with
        | some l, some h => 0 ≤ l ∧ l ≤ h ∧ h ≤ s.size ∧ K (finP o st (pS (s.extract l.toNat h.toNat))) μ
        | _, _ => False
    | _, _ => False
  | .fieldAddr t x f => match fOff E.P t f with
    | none => False
    | some d => match ρ x with
      | .box k off => K (finP o st (.box k (off + d))) μ
      | .fptr row off => K (finP o st (.fptr row (off + d))) μ
      | v => withPtrP v fun b off => K (finP o st (pP b (off + d))) μ
  | .field t x f => match ρ x with
    | .agg cs => match fldP E.P t f cs with
      | some v => K (finP o st v) μ
      | none => False
    | _ => False
  | .indexAddr t x i => match E.P.underlying t, ρ x, ρ i with
    | some (.slice e), .list sz _ rows, .raw (.int _ j) => bif (E.P.info? e).isSome && Nat.beq sz (E.P.cellsOf e) then 0 ≤ j ∧ ∃ row, rows[j.toNat]? = some row ∧ K (finP o st (.fptr row 0)) μ else False
    | some (.slice e), .raw (.slice a len _), .raw (.int _ j) => bif (E.P.info? e).isSome then withSl a fun b off => 0 ≤ j ∧ j < len ∧ K (finP o st (pP b (off + j.toNat * E.P.cellsOf e))) μ else False
    | some (.array len e), .box k off, .raw (.int _ j) => bif decide (0 ≤ j) && decide (j < len) && (E.P.info? e).isSome then K (finP o st (.box k (off + j.toNat * E.P.cellsOf e))) μ else False
    | _, _, _ => False
  | .index t x i => match E.P.underlying t, ρ x, ρ i with
    | some .string, .raw (.string s), .raw (.int _ j) => 0 ≤ j ∧ ∃ c : UInt8, s[j.toNat]? = some c ∧ K (finP o st (.raw (.int .u8 c.toNat))) μ
    | some (.array len e), .agg cs, .raw (.int _ j) => bif (E.P.info? e).isSome then 0 ≤ j ∧ j < len ∧ exVP E.P r e fun v => eltP E.P e (j.toNat * E.P.cellsOf e) cs = some v ∧ K (finP o st v) μ else False
    | _, _, _ => False
  | .extract x i => match ρ x with
    | .tup vs => match vs[i]? with
      | some v => bif v.ok then K (finP o st v) μ else False
      | none => False
    | _ => False
  | .call c => match c.callee with
    | .builtin b => V1b E q o st μ b c.args.toList c.argTypes.toList K
    | .value f => bif c.args.toList.all (fun x => (ρ x).ok) then
        CallD E.P q (ρ f) (argsP E.P c.argTypes.toList (c.args.toList.map ρ)) μ fun v μ' => exRP E.P r o.type fun v' => v = v' ∧ K (finP o st v') μ' else False
    | .invoke x name => bif c.args.toList.all (fun x => (ρ x).ok) then match ρ x with
        | .iface t p => match pv E.P (method (E.P.types.size + Made.depth) t undef name) with
          | some (g, _) => (∀ v, pv E.P (method (E.P.types.size + Made.depth) t v name) = some (g, v)) ∧
              CallD E.P q (.fn (.func g) [] []) (wk2 p :: argsP E.P c.argTypes.toList (c.args.toList.map ρ)) μ fun v μ' => exRP E.P r o.type fun v' => v = v' ∧ K (finP o st v') μ'
          | none => False
        | _ => False else False
  | _ => False

def Vl (E : EnvP) (fz : List Nat) (ops : Array Oper) (Q : PSt → Mem → Prop) : List Oper → PSt → Mem → Prop
  | [], st, μ => Q st μ
  | o :: l, st, μ => match o.guard with
    | none => V1 E false fz o st μ fun st' μ' => Vl E fz ops Q l st' μ'
    | some (j, b) => match gslot ops j with
      | none => False
      | some g => match st.σ g with
        | .raw (.bool c) => CIf c
            ((fun st1 => CIf b (V1 E false fz o st1 μ fun st' μ' => Vl E fz ops Q l st' μ') (Vl E fz ops Q l (finP o st1 (.tup [])) μ)) { st with σ := updP st.σ g (pB true) })
            ((fun st1 => CIf b (Vl E fz ops Q l (finP o st1 (.tup [])) μ) (V1 E false fz o st1 μ fun st' μ' => Vl E fz ops Q l st' μ')) { st with σ := updP st.σ g (pB false) })
        | .tup _ => Vl E fz ops Q l (finP o st (.tup [])) μ
        | _ => False

def guardedP (ops : Array Oper) (o : Oper) (st : PSt) (act skip : PSt → Prop) : Prop :=
  match o.guard with
  | none => act st
  | some (j, b) => match gslot ops j with
    | none => False
    | some g => match st.σ g with
      | .raw (.bool c) => CIf c
          ((fun st1 => CIf b (act st1) (skip st1)) { st with σ := updP st.σ g (pB true) })
          ((fun st1 => CIf b (skip st1) (act st1)) { st with σ := updP st.σ g (pB false) })
      | .tup _ => skip st
      | _ => False

/-- An operation that reads what is frozen through a pointer. -/
def frzLoad (st : PSt) (o : Oper) : Bool :=
  match o.op with
  | .load _ x => match evP st.σ x with
    | .fptr .. => true
    | _ => false
  | _ => false

def stepTP (E : EnvP) (fz : List Nat) (ops : Array Oper) (c : Bool) (μ0 : Mem) (i : Nat) (st : PSt) (K : PSt → Prop) : Prop :=
  match ops[i]? with
  | none => False
  | some o => guardedP ops o st (fun st1 => bif c || !frzLoad st1 o then V1 E false fz o st1 μ0 fun st' _ => K st' else False) (fun st1 => K (finP o st1 (.tup [])))

/-- An effect behind which something may be looked at: it turns nothing that was there; a store goes into a block that the region made. -/
def lateV (E : EnvP) (fz : List Nat) (o : Oper) (st : PSt) (μ0 μ : Mem) (K : PSt → Mem → Prop) : Prop :=
  match o.op with
  | .store _ x _ => match evP st.σ x with
    | .raw (.pointer (some ⟨b, _, none⟩)) => μ0 b = none ∧ V1 E false fz o st μ K
    | _ => V1 E true fz o st μ K
  | _ => V1 E true fz o st μ K

def stepEP (E : EnvP) (fz : List Nat) (ops : Array Oper) (μ0 : Mem) (i : Nat) (st : PSt) (μ : Mem) (K : PSt → Mem → Prop) : Prop :=
  match ops[i]? with
  | none => False
  | some o => bif privOp E.priv o then False else guardedP ops o st
      (fun st1 => bif hard ops i then lateV E (fz ++ st1.D.map (·.1)) o st1 μ0 μ K else V1 E false fz o st1 μ K)
      (fun st1 => K (finP o st1 (.tup [])) μ)

def Vd (E : EnvP) (fz : List Nat) (ops : Array Oper) (μ0 : Mem) (Q : PSt → Mem → Prop) : Bool → Plan → PSt → Mem → Prop
  | _, .nil, st, μ => Q st μ
  | c, .tk i p, st, μ => stepTP E fz ops c μ0 i st fun st' => Vd E fz ops μ0 Q c p st' μ
  | _, .ef i p, st, μ => stepEP E fz ops μ0 i st μ fun st' μ' => Vd E fz ops μ0 Q false p st' μ'
  | _, .ef2 i p j q, st, μ => (stepEP E fz ops μ0 i st μ fun st' μ' => Vd E fz ops μ0 Q false p st' μ') ∧ (stepEP E fz ops μ0 j st μ fun st' μ' => Vd E fz ops μ0 Q false q st' μ')
  | _, .ef3 i p j q k r, st, μ => (stepEP E fz ops μ0 i st μ fun st' μ' => Vd E fz ops μ0 Q false p st' μ') ∧ (stepEP E fz ops μ0 j st μ fun st' μ' => Vd E fz ops μ0 Q false q st' μ') ∧ (stepEP E fz ops μ0 k st μ fun st' μ' => Vd E fz ops μ0 Q false r st' μ')

def stepQP (E : EnvP) (fz : List Nat) (ops : Array Oper) (i : Nat) (st : PSt) (μ : Mem) (K : PSt → Mem → Prop) : Prop :=
  match ops[i]? with
  | none => False
  | some o => guardedP ops o st (fun st1 => V1 E false fz o st1 μ K) (fun st1 => K (finP o st1 (.tup [])) μ)

def Vq (E : EnvP) (fz : List Nat) (ops : Array Oper) (Q : PSt → Mem → Prop) : PlanQ → PSt → Mem → Prop
  | .nil, st, μ => Q st μ
  | .tk i q, st, μ => stepTP E fz ops true μ i st fun st' => Vq E fz ops Q q st' μ
  | .ld i q r, st, μ => (stepTP E fz ops true μ i st fun st' => Vq E fz ops Q q st' μ) ∧ Vq E fz ops Q r st μ
  | .alt i q r, st, μ => (stepQP E fz ops i st μ fun st' μ' => Vq E fz ops Q q st' μ') ∧ Vq E fz ops Q r st μ
  | .done, _, _ => True

def toJP (c : CutP) (J : TupP c.live → Mem → Prop) (st : PSt) (μ : Mem) : Prop :=
  bif scrapOkP st c.scrap then (match getLiveP st c.live with
    | some s => J s μ
    | none => False) else False

def thenQP (next : PSt → Mem → Prop) (Q : Exit → PSt → Mem → Prop) : Exit → PSt → Mem → Prop
  | .normal, st, μ => next st μ
  | e, st, μ => Q e st μ

def blockQP (id : Nat) (Q : Exit → PSt → Mem → Prop) : Exit → PSt → Mem → Prop
  | .exit i, st, μ => bif Nat.beq i id then Q .normal st μ else Q (.exit i) st μ
  | e, st, μ => Q e st μ

def normQP (K : PSt → Mem → Prop) : Exit → PSt → Mem → Prop
  | .normal, st, μ => K st μ
  | _, _, _ => False

def roundQP (R : Option Code → Mem → Prop) : Exit → PSt → Mem → Prop
  | .normal, _, μ => R none μ
  | .ret, _, μ => R (some .ret) μ
  | .exit i, _, μ => R (some (.exit i)) μ
  | _, _, _ => False

def rndSP (σ : FrP) : FrP := fun t => match σ t with | .box _ _ => .poison | v => v

def setPsP (σ : FrP) : List Nat → List PV → FrP
  | p :: ps, v :: vs => setPsP (updP σ p v) ps vs
  | _, _ => σ

def V (E : EnvP) : List Nat → Code → (Exit → PSt → Mem → Prop) → PSt → Mem → Prop
  | _, .skip, Q, st, μ => Q .normal st μ
  | _, .ret, Q, st, μ => Q .ret st μ
  | _, .exit i, Q, st, μ => Q (.exit i) st μ
  | fz, .region _ ops false, Q, st, μ => Vl E fz ops (Q .normal) ops.toList st μ
  | fz, .region id ops true, Q, st, μ => bif E.P.follows .mixedOrders then (bif isQ E.priv id then (match mkPlanQ ops with
    | some p => Vq E fz ops (Q .normal) p st μ
    | none => False) else match mkPlan ops with
    | some p => Vd E fz ops μ (Q .normal) true p st μ
    | none => False) else False
  | fz, .seq a b, Q, st, μ => match (firstR b).bind (look E.joins) with
    | none => V E fz a (thenQP (fun st' μ' => V E fz b Q st' μ') Q) st μ
    | some l => bif liveOk fz st.D l.er then CJoin (fun J => V E (freeze fz st.D l.er) a (thenQP (toJP l J) Q) st μ) (fun s μ' => V E fz b Q (mixP st (writes a) l s) μ') else False
  | fz, .cond c a b, Q, st, μ => match evP st.σ c with
    | .raw (.bool t) => CIf t (V E fz a Q st μ) (V E fz b Q st μ)
    | _ => False
  | fz, .block id a, Q, st, μ => V E fz a (blockQP id Q) st μ
  | fz, .loop a, Q, st, μ => match (firstR a).bind (look E.loops) with
    | none => False
    | some l => bif liveOk fz st.D l.er then toJP l (LoopI fun next s μ' => V E (freeze fz st.D l.er) a (thenQP (toJP l next) Q) (mixP st (writes a) l s) μ') st μ else False
  | _, .rangeFunc f ps assign body, Q, st, μ => match look E.rngs (ps.toList.headD 0) with
    | none => False
    | some ts => bif Nat.beq ts.length ps.toList.length then
        RangeP E.P (evP st.σ f) (fun vs R μ' => exVsP E.P (match ps.toList with | p :: _ => memN E.raws p | [] => false) ts fun vs' => vs = vs' ∧ V E [] assign (normQP fun st1 μ1 => V E [] body (roundQP R) st1 μ1) ⟨setPsP (rndSP st.σ) ps.toList vs', []⟩ μ')
          (fun p μ' => PK p (Q .normal st μ') (bif hasRet body then Q .ret st μ' else False) ((undup (exitsOf body)).map fun i => (i, Q (.exit i) st μ'))) μ
      else False
  | _, _, _, _, _ => False

def argFP (args : List PV) : FrP := fun t => (args[t]?).getD (.tup [])

def resQP (P : Program) (rw : List Nat) (st : PSt) (μ : Mem) : List ResultVar → (List PV → Prop) → Prop
  | [], F => F []
  | .tmp t :: l, F => bif (st.σ t).ok then resQP P rw st μ l fun vs => F (st.σ t :: vs) else False
  | .cell a t :: l, F => match kindsV P (memN rw a) t with
    | none => False
    | some ks => match st.σ a with
      | .box k off => match boxSize st.D k with
        | some m => bif Nat.ble (off + ks.length) m && allCell (rdGP st.σ k off ks.length) then resQP P rw st μ l fun vs => F (mkP (aggT P t) (rdGP st.σ k off ks.length) :: vs) else False
        | none => False
      | v => withPtrP v fun b off => exLV ks fun us => rdM μ b off ks.length = some us ∧ resQP P rw st μ l fun vs => F (mkP (aggT P t) us :: vs)

def tupRP (R : PV → Mem → Prop) (μ : Mem) : List PV → Prop
  | [v] => R v μ
  | vs => R (.tup vs) μ

def retQP (P : Program) (rw : List Nat) (rs : List ResultVar) (R : PV → Mem → Prop) : Exit → PSt → Mem → Prop
  | .ret, st, μ => resQP P rw st μ rs (tupRP R μ)
  | .normal, st, μ => resQP P rw st μ rs (tupRP R μ)
  | _, _, _ => False

/-- What a function asks of its arguments and the memory. -/
def VF (E : EnvP) (c : Code) (rs : List ResultVar) (args : List PV) (μ : Mem) (R : PV → Mem → Prop) : Prop :=
  V E [] c (retQP E.P E.raws rs R) ⟨argFP args, []⟩ μ

end Go.Eng

/-
  Plain values and the engine's: states held against each other.
-/
namespace Go.Eng
open Go.RowKit
set_option linter.unusedVariables false

theorem RepM.nil (Z : Fz) : RepM Z [] [] := ⟨rfl, by simp⟩
theorem RepM.cons {Z : Fz} {p : PV} {ps : List PV} {v : Value} {vs : List Value} (h : Rep Z p v) (hs : RepM Z ps vs) : RepM Z (p :: ps) (v :: vs) :=
  ⟨by simp [hs.1], fun i q w a b => by
    cases i with
    | zero => simp only [List.getElem?_cons_zero, Option.some.injEq] at a b; subst a; subst b; exact h
    | succ i => simp only [List.getElem?_cons_succ] at a b; exact hs.2 i q w a b⟩
theorem RepM.inv {Z : Fz} {p : PV} {ps : List PV} {vs : List Value} (h : RepM Z (p :: ps) vs) : ∃ v vs', vs = v :: vs' ∧ Rep Z p v ∧ RepM Z ps vs' := by
  obtain ⟨hl, h⟩ := h
  cases vs with
  | nil => simp at hl
  | cons v vs => exact ⟨v, vs, rfl, h 0 p v rfl rfl, by simpa using hl, fun i q w a b => h (i + 1) q w (by simpa using a) (by simpa using b)⟩
theorem RepM.inv0 {Z : Fz} {vs : List Value} (h : RepM Z [] vs) : vs = [] := List.eq_nil_of_length_eq_zero h.1
theorem RepC.m {Z : Fz} {ps : List PV} {vs : List Value} (h : RepC Z ps vs) : RepM Z ps vs := ⟨h.1, fun i p v a b => (h.2 i p v a b).2⟩
theorem Reps.m {Z : Fz} {ps : List PV} {vs : List Value} (h : Reps Z ps vs) : RepM Z ps vs := ⟨h.1, fun i p v a b => (h.2 i p v a b).2⟩
theorem RepM.c {Z : Fz} {ps : List PV} {vs : List Value} (h : RepM Z ps vs) (hc : allCell ps = true) : RepC Z ps vs :=
  ⟨h.1, fun i p v a b => ⟨List.all_eq_true.1 hc p (List.mem_of_getElem? a), h.2 i p v a b⟩⟩
theorem RepM.s {Z : Fz} {ps : List PV} {vs : List Value} (h : RepM Z ps vs) (hc : allOk ps = true) : Reps Z ps vs :=
  ⟨h.1, fun i p v a b => ⟨List.all_eq_true.1 hc p (List.mem_of_getElem? a), h.2 i p v a b⟩⟩
theorem RepM.mono {Z Z' : Fz} (hz : Z.le Z') {ps : List PV} {vs : List Value} (h : RepM Z ps vs) : RepM Z' ps vs := ⟨h.1, fun i p v a b => (h.2 i p v a b).mono hz⟩
theorem RepC.allCell {Z : Fz} {ps : List PV} {vs : List Value} (h : RepC Z ps vs) : allCell ps = true := by
  refine List.all_eq_true.2 fun p hp => ?_
  obtain ⟨i, hi⟩ := List.mem_iff_getElem?.1 hp
  obtain ⟨v, _, hc, _⟩ := h.get hi
  exact hc

theorem RepC.toAgg {Z : Fz} {ps : List PV} {vs : List Value} (h : RepC Z ps vs) : Rep Z (.agg ps) (.agg vs.toArray) :=
  .agg ps vs h.1 (fun p hp => List.all_eq_true.1 h.allCell p hp) fun i p v a b => (h.2 i p v a b).2

theorem Reps.toTup {Z : Fz} {ps : List PV} {vs : List Value} (h : Reps Z ps vs) : Rep Z (.tup ps) (.tuple vs.toArray) := by
  refine .tup ps vs h.1 (fun p hp => ?_) fun i p v a b => (h.2 i p v a b).2
  obtain ⟨i, hi⟩ := List.mem_iff_getElem?.1 hp
  obtain ⟨v, _, hc, _⟩ := h.get hi
  exact hc

theorem Rep.ofAgg {Z : Fz} {ps : List PV} {v : Value} (h : Rep Z (.agg ps) v) : ∃ vs : List Value, v = .agg vs.toArray ∧ RepC Z ps vs := by
  cases h with
  | agg cs vs hl hk h => exact ⟨vs, rfl, hl, fun i p v a b => ⟨hk p (List.mem_of_getElem? a), h i p v a b⟩⟩

theorem Rep.ofTup {Z : Fz} {ps : List PV} {v : Value} (h : Rep Z (.tup ps) v) : ∃ vs : List Value, v = .tuple vs.toArray ∧ Reps Z ps vs := by
  cases h with
  | tup cs vs hl hk h => exact ⟨vs, rfl, hl, fun i p v a b => ⟨hk p (List.mem_of_getElem? a), h i p v a b⟩⟩

theorem Rep.ofRaw {Z : Fz} {v w : Value} (h : Rep Z (.raw v) w) : w = v ∧ Eng.plain v = true ∧ one v = true := by
  cases h; exact ⟨rfl, by assumption, by assumption⟩

theorem Rep.ofBox {Z : Fz} {k o : Nat} {w : Value} (h : Rep Z (.box k o) w) : w = fake k o := by cases h; rfl

theorem Rep.ofFn {Z : Fz} {f : Fn} {a b : List PV} {w : Value} (h : Rep Z (.fn f a b) w) : ∃ fv cv : List Value, w = .func f fv.toArray cv.toArray ∧ Reps Z a fv ∧ Reps Z b cv := by
  cases h with
  | fn f first caps fv cv h1 h2 kf kc hf hc => exact ⟨fv, cv, rfl, ⟨h1, fun i p v a b => ⟨kf p (List.mem_of_getElem? a), hf i p v a b⟩⟩, ⟨h2, fun i p v a b => ⟨kc p (List.mem_of_getElem? a), hc i p v a b⟩⟩⟩

theorem Reps.toFn {Z : Fz} {f : Fn} {a b : List PV} {fv cv : List Value} (h : Reps Z a fv) (k : Reps Z b cv) : Rep Z (.fn f a b) (.func f fv.toArray cv.toArray) := by
  refine .fn f a b fv cv h.1 k.1 (fun p hp => ?_) (fun p hp => ?_) (fun i p v a b => (h.2 i p v a b).2) (fun i p v a b => (k.2 i p v a b).2)
  · obtain ⟨i, hi⟩ := List.mem_iff_getElem?.1 hp
    obtain ⟨v, _, hc, _⟩ := h.get hi; exact hc
  · obtain ⟨i, hi⟩ := List.mem_iff_getElem?.1 hp
    obtain ⟨v, _, hc, _⟩ := k.get hi; exact hc

theorem Rep.ofList {Z : Fz} {sz : Nat} {fl : Fl} {rows : List (List PV)} {w : Value} (h : Rep Z (.list sz fl rows) w) : ∃ a n c, w = .slice a n c ∧ rows.length = n ∧ n ≤ c ∧ (c = 0 ∨ noSpot a) ∧ FlOk fl a n c := by
  cases h; exact ⟨_, _, _, rfl, by assumption, by assumption, by assumption, by assumption⟩

theorem Rep.nilAny {Z : Fz} {sz sz' : Nat} {fl : Fl} {w : Value} (h : Rep Z (.list sz fl []) w) : Rep Z (.list sz' fl []) w := by
  cases h with
  | list _ _ _ a n c b o C g hn hc hs hr ha hg hk hp hf =>
    simp only [List.length_nil] at hn
    subst hn
    exact .list sz' fl [] a 0 c b o C g rfl hc hs (by simp) (fun h => absurd rfl h) (fun i j hi => absurd hi (Nat.not_lt_zero i)) (by simp) (by simp) hf

theorem Rep.flag {Z : Fz} {sz : Nat} {fl fl' : Fl} {rows : List (List PV)} {w : Value} (h : Rep Z (.list sz fl rows) w) (hf' : ∀ a n c, w = .slice a n c → FlOk fl' a n c) : Rep Z (.list sz fl' rows) w := by
  cases h with
  | list _ _ _ a n c b o C g hn hc hs hr ha hg hk hp hf => exact .list sz fl' rows a n c b o C g hn hc hs hr ha hg hk hp (hf' a n c rfl)

theorem Rep.sh {Z : Fz} {sz : Nat} {fl : Fl} {rows : List (List PV)} {w : Value} (h : Rep Z (.list sz fl rows) w) : Rep Z (.list sz .sh rows) w := h.flag fun _ _ _ _ => trivial

theorem Rep.wk1 {Z : Fz} {p : PV} {w : Value} (h : Rep Z p w) : Rep Z (wk1 p) w := by
  cases p <;> first | exact h.sh | exact h

theorem wk1_cell {p : PV} : (wk1 p).cell = p.cell := by cases p <;> rfl
theorem wk1_ok {p : PV} : (wk1 p).ok = p.ok := by cases p <;> rfl

theorem RepC.wk {Z : Fz} {ps : List PV} {vs : List Value} (h : RepC Z ps vs) : RepC Z (ps.map Eng.wk1) vs :=
  ⟨by simp [h.1], fun i p v a b => by
    rw [List.getElem?_map] at a
    cases hq : ps[i]? with
    | none => simp [hq] at a
    | some q =>
      simp only [hq, Option.map_some, Option.some.injEq] at a
      subst a
      exact ⟨by rw [wk1_cell]; exact (h.2 i q v hq b).1, (h.2 i q v hq b).2.wk1⟩⟩

theorem Rep.wk2 {Z : Fz} {p : PV} {w : Value} (h : Rep Z p w) : Rep Z (wk2 p) w := by
  cases p <;> try exact h
  obtain ⟨vs, rfl, hc⟩ := h.ofAgg
  exact hc.wk.toAgg

theorem wk2_ok {p : PV} : (wk2 p).ok = p.ok := by cases p <;> rfl

theorem Rep.wk {Z : Fz} {p : PV} {w : Value} (h : Rep Z p w) : Rep Z (wk p) w := by
  cases p with
  | agg cs => exact h.wk2
  | tup vs =>
    obtain ⟨ws, rfl, hs⟩ := h.ofTup
    refine Reps.toTup ⟨by simp [hs.1], fun i p v a b => ?_⟩
    rw [List.getElem?_map] at a
    cases hq : vs[i]? with
    | none => simp [hq] at a
    | some q =>
      simp only [hq, Option.map_some, Option.some.injEq] at a
      subst a
      have := hs.2 i q v hq b
      exact ⟨by rw [wk2_ok, wk1_ok]; exact this.1, this.2.wk1.wk2⟩
  | _ => exact h.wk1

theorem wk_ok {p : PV} : (Eng.wk p).ok = p.ok := by cases p <;> rfl

theorem Rep.nrm {Z : Fz} {sz : Nat} {p : PV} {w : Value} (h : Rep Z p w) : Rep Z (nrm sz p) w := by
  unfold Eng.nrm; split
  · exact h.nilAny
  · exact h
theorem nrm_cell {sz : Nat} {p : PV} : (nrm sz p).cell = p.cell := by unfold nrm; split <;> rfl

theorem RepC.nrms {Z : Fz} : ∀ {ks : List KV} {ps : List PV} {vs : List Value}, RepC Z ps vs → RepC Z (nrms ks ps) vs
  | [], ps, vs, h => by simpa [Eng.nrms] using h
  | k :: ks, [], vs, h => by cases k <;> simpa [Eng.nrms] using h
  | .list sz :: ks, p :: ps, vs, h => by
    obtain ⟨v, vs', rfl, h1, h2, h3⟩ := h.inv
    exact RepC.cons (by rw [nrm_cell]; exact h1) h2.nrm h3.nrms
  | .raw k :: ks, p :: ps, vs, h => by
    obtain ⟨v, vs', rfl, h1, h2, h3⟩ := h.inv
    exact RepC.cons h1 h2 h3.nrms
  | .fn :: ks, p :: ps, vs, h => by
    obtain ⟨v, vs', rfl, h1, h2, h3⟩ := h.inv
    exact RepC.cons h1 h2 h3.nrms

theorem Rep.nrmT {Z : Fz} {P : Program} {t : TypeId} {p : PV} {w : Value} (h : Rep Z p w) : Rep Z (nrmT P t p) w := by
  unfold Eng.nrmT
  split
  · split
    · obtain ⟨vs, rfl, hc⟩ := h.ofAgg; exact hc.nrms.toAgg
    · split
      · exact h.nilAny
      · exact h
    · exact h
  · exact h

theorem nrmT_ok {P : Program} {t : TypeId} {p : PV} : (nrmT P t p).ok = p.ok := by
  unfold nrmT
  split
  · split
    · rfl
    · split <;> rfl
    · rfl
  · rfl

theorem Rep.argP {Z : Fz} {P : Program} {t : TypeId} {p : PV} {w : Value} (h : Rep Z p w) : Rep Z (argP P t p) w := h.nrmT.wk2
theorem argP_ok {P : Program} {t : TypeId} {p : PV} : (argP P t p).ok = p.ok := by unfold argP; rw [wk2_ok, nrmT_ok]

theorem Reps.argsP {Z : Fz} {P : Program} : ∀ {ts : List TypeId} {ps : List PV} {vs : List Value}, Reps Z ps vs → Reps Z (argsP P ts ps) vs
  | [], ps, vs, h => by simpa [Eng.argsP] using h
  | t :: ts, [], vs, h => by simpa [Eng.argsP] using h
  | t :: ts, p :: ps, vs, h => by
    obtain ⟨v, vs', rfl, h1, h2, h3⟩ := h.inv
    exact Reps.cons (by rw [argP_ok]; exact h1) h2.argP h3.argsP

/-! ### constants -/
theorem ofV1_rep (Z : Fz) (v : Value) : Rep Z (ofV1 v) v := by
  unfold ofV1
  split
  · exact .list 0 .nil [] none 0 0 0 0 [] (fun _ _ => undef) rfl (Nat.le_refl _) (.inl rfl) (by simp) (fun h => absurd rfl h) (fun i j hi => absurd hi (Nat.not_lt_zero i)) (by simp) (by simp) ⟨rfl, rfl, rfl⟩
  · exact .poison _
  · exact .poison _
  · exact .poison _
  · exact .poison _
  · exact .poison _
  · rename_i f a b
    cases hb : (Nat.beq a.size 0 && Nat.beq b.size 0) with
    | false => exact .poison _
    | true =>
      simp only [Bool.and_eq_true, beq_iff] at hb
      have h1 : a = #[] := Array.eq_empty_of_size_eq_zero hb.1
      have h2 : b = #[] := Array.eq_empty_of_size_eq_zero hb.2
      subst h1; subst h2
      exact Reps.toFn (fv := []) (cv := []) (Reps.nil Z) (Reps.nil Z)
  · rename_i h1 h2 h3 h4 h5 h6 h7
    refine .raw v ?_ ?_
    · cases v <;> first | rfl | (exact absurd rfl (h5 _ _ _))
    · cases v <;> first | rfl | (exact absurd rfl (h3 _)) | (exact absurd rfl (h4 _))

theorem ofV1s_rep (Z : Fz) (l : List Value) : RepM Z (l.map ofV1) l :=
  ⟨by simp, fun i p v a b => by
    rw [List.getElem?_map, b] at a
    simp only [Option.map_some, Option.some.injEq] at a
    subst a; exact ofV1_rep Z v⟩

theorem ofV_rep (Z : Fz) (v : Value) : Rep Z (ofV v) v := by
  unfold ofV
  split
  · rename_i a
    cases hb : allCell (a.toList.map ofV1) with
    | false => exact .poison _
    | true => simpa using ((ofV1s_rep Z a.toList).c hb).toAgg
  · rename_i a
    cases hb : allOk (a.toList.map ofV1) with
    | false => exact .poison _
    | true => simpa using ((ofV1s_rep Z a.toList).s hb).toTup
  · exact ofV1_rep Z v

/-! ### frames -/
structure Rel2 (Z : Fz) (p : PSt) (s : St) : Prop where
  D : p.D = s.D
  slot : ∀ t, Rep Z (p.σ t) (s.σ t)

theorem Rel2.mono {Z Z' : Fz} (hz : Z.le Z') {p : PSt} {s : St} (h : Rel2 Z p s) : Rel2 Z' p s := ⟨h.D, fun t => (h.slot t).mono hz⟩

def RepF (Z : Fz) (p : FrP) (s : Fr) : Prop := ∀ t, Rep Z (p t) (s t)

theorem RepF.upd {Z : Fz} {p : FrP} {s : Fr} (h : RepF Z p s) {t : Nat} {x : PV} {v : Value} (hv : Rep Z x v) : RepF Z (updP p t x) (upd s t v) := by
  intro i
  unfold updP Eng.upd
  cases Nat.beq i t
  · exact h i
  · exact hv

theorem RepF.put {Z : Fz} {p : FrP} {s : Fr} (h : RepF Z p s) {d : Option Nat} {x : PV} {v : Value} (hv : Rep Z x v) : RepF Z (putP p d x) (put s d v) := by
  cases d with
  | none => exact h
  | some t => exact h.upd hv

theorem RepF.wrG {Z : Fz} {k : Nat} : ∀ {ps : List PV} {vs : List Value} {p : FrP} {s : Fr} {j : Nat}, RepF Z p s → RepM Z ps vs → RepF Z (wrGP p k j ps) (wrG s k j vs)
  | [], vs, p, s, j, h, hv => by rw [hv.inv0]; exact h
  | x :: ps, vs, p, s, j, h, hv => by
    obtain ⟨v, vs', rfl, h1, h2⟩ := hv.inv
    exact RepF.wrG (p := updP p (gx k j) x) (s := Eng.upd s (gx k j) v) (j := j + 1) (h.upd h1) h2

theorem RepF.rdG {Z : Fz} {p : FrP} {s : Fr} {k : Nat} (h : RepF Z p s) : ∀ (m j : Nat), RepM Z (rdGP p k j m) (Eng.rdG s k j m)
  | 0, _ => RepM.nil Z
  | m + 1, j => RepM.cons (h _) (h.rdG m (j + 1))

theorem rdGP_length (σ : FrP) (k : Nat) : ∀ (m j : Nat), (rdGP σ k j m).length = m
  | 0, _ => rfl
  | m + 1, j => by simp [rdGP, rdGP_length σ k m (j + 1)]

theorem Rel2.ev {Z : Fz} {p : PSt} {s : St} (h : Rel2 Z p s) (x : Operand) : Rep Z (evP p.σ x) (ev s.σ x) := by
  cases x with
  | tmp t => exact h.slot t
  | const v => exact ofV_rep Z v
  | global g => exact .raw _ rfl rfl
  | func f => exact Reps.toFn (fv := []) (cv := []) (Reps.nil Z) (Reps.nil Z)

theorem Rel2.fin {Z : Fz} {p : PSt} {s : St} (h : Rel2 Z p s) (o : Oper) {x : PV} {v : Value} (hv : Rep Z x v) : Rel2 Z (finP o p x) (fin o s v) := ⟨h.D, RepF.put h.slot hv⟩

/-! ### kinds -/
theorem KV.p_cell (k : KV) (x : k.T) : (k.p x).cell = true := by cases k <;> rfl

theorem nilRow_some {fl : Fl} {rows : List (List PV)} {x : Fl × List (List PV)} (h : nilRow fl rows = some x) : fl = .nil ∧ rows = [] ∧ x = (.nil, []) := by
  unfold nilRow at h
  split at h
  · simp only [Option.some.injEq] at h; exact ⟨rfl, rfl, h.symm⟩
  · cases h

theorem KV.get_rep {Z : Fz} {k : KV} {p : PV} {v : Value} {x : k.T} (h : Rep Z p v) (hg : k.get p = some x) : ∃ y : k.er.T, k.er.get v = some y ∧ Rep Z (k.p x) (k.er.v y) := by
  cases k with
  | raw k =>
    cases p with
    | raw v0 =>
      simp only [KV.get] at hg
      obtain ⟨rfl, hp, h1⟩ := h.ofRaw
      refine ⟨x, hg, ?_⟩
      have := K1.get_v hg
      rw [this] at hp h1
      exact .raw _ hp h1
    | list sz fl rows =>
      cases k with
      | slice =>
        cases fl with
        | nil =>
          simp only [KV.get, Option.some.injEq] at hg
          subst hg
          obtain ⟨a, n, c, rfl, _, _, _, hf⟩ := h.ofList
          obtain ⟨rfl, rfl, rfl⟩ := hf
          exact ⟨(none, 0, 0), rfl, .raw _ rfl rfl⟩
        | _ => simp [KV.get] at hg
      | _ => simp [KV.get] at hg
    | _ => simp [KV.get] at hg
  | list sz =>
    cases p <;> simp only [KV.get] at hg <;> try (cases hg; done)
    rename_i sz' fl rows
    obtain ⟨a, n, c, rfl, _⟩ := h.ofList
    refine ⟨(a, n, c), rfl, ?_⟩
    cases hb : Nat.beq sz sz' with
    | true =>
      rw [hb] at hg
      simp only [cond_true, Option.some.injEq] at hg
      subst hg
      have := beq_iff.1 hb; subst this
      exact h
    | false =>
      rw [hb] at hg
      obtain ⟨rfl, rfl, rfl⟩ := nilRow_some hg
      exact h.nilAny
  | fn =>
    cases p <;> simp only [KV.get] at hg <;> try (cases hg; done)
    rename_i f a b
    obtain ⟨fv, cv, rfl, h1, h2⟩ := h.ofFn
    simp only [Option.some.injEq] at hg
    subst hg
    exact ⟨(f, fv.toArray, cv.toArray), rfl, Reps.toFn h1 h2⟩

theorem TLget_cons {k k' : K1} {ks : List K1} {v : Value} {vs : List Value} {x : k.T} {y : TL (k' :: ks)} (h1 : k.get v = some x) (h2 : TLget (k' :: ks) vs = some y) : TLget (k :: k' :: ks) (v :: vs) = some (x, y) := by
  simp only [TLget, h1, h2]

theorem getLive_cons {s : St} {x y : Nat × Kd} {l : Live} {a : x.2.T} {b : Tup (y :: l)} (h1 : getD1 s x = some a) (h2 : getLive s (y :: l) = some b) : getLive s (x :: y :: l) = some (a, b) := by
  simp only [getLive, h1, h2]

theorem TLPget_rep {Z : Fz} : ∀ {ks : List KV} {ps : List PV} {vs : List Value} {x : TLP ks}, RepM Z ps vs → TLPget ks ps = some x → ∃ y : TL (ks.map KV.er), TLget (ks.map KV.er) vs = some y ∧ RepM Z (TLPv ks x) (TLv (ks.map KV.er) y)
  | [], [], vs, x, h, _ => by rw [h.inv0]; exact ⟨(), rfl, RepM.nil Z⟩
  | [], _ :: _, _, _, _, hg => by simp [TLPget] at hg
  | [k], [], _, _, _, hg => by simp [TLPget] at hg
  | [k], [p], vs, x, h, hg => by
    obtain ⟨v, vs', rfl, h1, h2⟩ := h.inv
    rw [h2.inv0]
    obtain ⟨y, hy, hr⟩ := KV.get_rep h1 hg
    exact ⟨y, hy, RepM.cons hr (RepM.nil Z)⟩
  | [k], _ :: _ :: _, _, _, _, hg => by simp [TLPget] at hg
  | k :: k' :: ks, [], _, _, _, hg => by simp [TLPget] at hg
  | k :: k' :: ks, p :: ps, vs, x, h, hg => by
    obtain ⟨v, vs', rfl, h1, h2⟩ := h.inv
    simp only [TLPget] at hg
    split at hg
    · rename_i a b ha hb
      simp only [Option.some.injEq] at hg
      subst hg
      obtain ⟨y, hy, hr⟩ := KV.get_rep h1 ha
      obtain ⟨ys, hys, hrs⟩ := TLPget_rep (ks := k' :: ks) h2 hb
      refine ⟨(y, ys), ?_, RepM.cons hr hrs⟩
      exact TLget_cons hy hys
    · cases hg

theorem TLPv_cell : ∀ (ks : List KV) (x : TLP ks), allCell (TLPv ks x) = true
  | [], _ => rfl
  | [k], x => by simp [TLPv, allCell, KV.p_cell]
  | k :: k' :: ks, x => by
    have := TLPv_cell (k' :: ks) x.2
    simp only [allCell] at this
    simp only [TLPv, allCell, List.all_cons, KV.p_cell, this, Bool.and_self]

theorem TLPv_length : ∀ (ks : List KV) (x : TLP ks), (TLPv ks x).length = ks.length
  | [], _ => rfl
  | [k], x => rfl
  | k :: k' :: ks, x => by simp [TLPv, TLPv_length (k' :: ks) x.2]

def RepD (Z : Fz) : (x : Nat × KdP) → x.2.T → (Kd.T x.2.er) → Prop
  | (_, .one k), a, b => Rep Z (k.p a) (k.er.v b)
  | (_, .agg ks), a, b => RepM Z (TLPv ks a) (TLv (ks.map KV.er) b)
  | (_, .box ks), a, b => RepM Z (TLPv ks a) (TLv (ks.map KV.er) b)

def RepTup (Z : Fz) : (l : LiveP) → TupP l → Tup l.er → Prop
  | [], _, _ => True
  | [x], a, b => RepD Z x a b
  | x :: y :: l, a, b => RepD Z x a.1 b.1 ∧ RepTup Z (y :: l) a.2 b.2

theorem RepD.mono {Z Z' : Fz} (hz : Z.le Z') : ∀ {x : Nat × KdP} {a : x.2.T} {b : Kd.T x.2.er}, RepD Z x a b → RepD Z' x a b
  | (_, .one k), _, _, h => Rep.mono hz h
  | (_, .agg ks), _, _, h => RepM.mono hz h
  | (_, .box ks), _, _, h => RepM.mono hz h

theorem RepTup.mono {Z Z' : Fz} (hz : Z.le Z') : ∀ {l : LiveP} {a : TupP l} {b : Tup l.er}, RepTup Z l a b → RepTup Z' l a b
  | [], _, _, _ => trivial
  | [x], _, _, h => RepD.mono hz h
  | x :: y :: l, _, _, h => ⟨RepD.mono hz h.1, RepTup.mono (l := y :: l) hz h.2⟩

theorem getD1_rep {Z : Fz} {p : PSt} {s : St} (hr : Rel2 Z p s) : ∀ {x : Nat × KdP} {a : x.2.T}, getD1P p x = some a → ∃ b, getD1 s (x.1, x.2.er) = some b ∧ RepD Z x a b
  | (t, .one k), a, h => KV.get_rep (hr.slot t) h
  | (t, .agg ks), a, h => by
    simp only [getD1P] at h
    have hs := hr.slot t
    split at h
    · rename_i cs he
      rw [he] at hs
      obtain ⟨vs, hv, hc⟩ := hs.ofAgg
      obtain ⟨y, hy, hm⟩ := TLPget_rep hc.m h
      refine ⟨y, ?_, hm⟩
      show (match s.σ t with | .agg a => TLget (ks.map KV.er) a.toList | _ => none) = some y
      rw [hv]; exact hy
    · cases h
  | (t, .box ks), a, h => by
    simp only [getD1P] at h
    have hs := hr.slot t
    split at h
    · rename_i k o he
      rw [he] at hs
      have hv := hs.ofBox
      cases hb : ((Nat.beq k t && Nat.beq o 0) && hasBox p.D t ks.length) with
      | false => rw [hb] at h; cases h
      | true =>
        rw [hb] at h
        obtain ⟨y, hy, hm⟩ := TLPget_rep (RepF.rdG hr.slot _ _) h
        refine ⟨y, ?_, hm⟩
        show (match s.σ t with
          | .complex .f64 k o => bif (Nat.beq k t && Nat.beq o 0) && hasBox s.D t (ks.map KV.er).length then TLget (ks.map KV.er) (rdG s.σ t 0 (ks.map KV.er).length) else none
          | _ => none) = some y
        rw [hv]
        simp only [List.length_map, ← hr.D, hb, cond_true]
        exact hy
    · cases h

theorem getLive_rep {Z : Fz} {p : PSt} {s : St} (hr : Rel2 Z p s) : ∀ {l : LiveP} {a : TupP l}, getLiveP p l = some a → ∃ b, getLive s l.er = some b ∧ RepTup Z l a b
  | [], _, _ => ⟨(), rfl, trivial⟩
  | [x], a, h => getD1_rep hr h
  | x :: y :: l, a, h => by
    simp only [getLiveP] at h
    split at h
    · rename_i a1 a2 h1 h2
      simp only [Option.some.injEq] at h
      subst h
      obtain ⟨b1, hb1, r1⟩ := getD1_rep hr h1
      obtain ⟨b2, hb2, r2⟩ := getLive_rep (l := y :: l) hr h2
      refine ⟨(b1, b2), ?_, r1, r2⟩
      exact getLive_cons hb1 hb2
    · cases h

theorem setD1_rep {Z : Fz} : ∀ {p : PSt} {s : St} (_ : Rel2 Z p s) {x : Nat × KdP} {a : x.2.T} {b : Kd.T x.2.er}, RepD Z x a b → Rel2 Z (setD1P p x a) (setD1 s (x.1, x.2.er) b)
  | p, s, hr, (t, .one k), a, b, h => ⟨hr.D, RepF.upd hr.slot h⟩
  | p, s, hr, (t, .agg ks), a, b, h => ⟨hr.D, RepF.upd hr.slot (h.c (TLPv_cell ks a)).toAgg⟩
  | p, s, hr, (t, .box ks), a, b, h => by
    refine ⟨?_, RepF.wrG (RepF.upd hr.slot (.box t 0)) h⟩
    show (bif hasBox p.D t ks.length then p.D else (t, ks.length) :: p.D) = (bif hasBox s.D t (ks.map KV.er).length then s.D else (t, (ks.map KV.er).length) :: s.D)
    rw [List.length_map, hr.D]

theorem setLive_rep {Z : Fz} : ∀ {l : LiveP} {p : PSt} {s : St} (_ : Rel2 Z p s) {a : TupP l} {b : Tup l.er}, RepTup Z l a b → Rel2 Z (setLiveP p l a) (setLive s l.er b)
  | [], p, s, hr, _, _, _ => hr
  | [x], p, s, hr, _, _, h => setD1_rep hr h
  | x :: y :: l, p, s, hr, a, b, h => setLive_rep (l := y :: l) (setD1_rep hr h.1) h.2

theorem replicate_rep (Z : Fz) (m : Nat) : RepM Z (List.replicate m .poison) (List.replicate m poison) :=
  ⟨by simp, fun i p v a b => by
    rw [List.getElem?_replicate] at a b
    split at a
    · rename_i h
      rw [if_pos h] at b
      cases a; cases b; exact .poison _
    · cases a⟩

theorem scrapG_rep {Z : Fz} : ∀ {l : List (Nat × Nat)} {p : FrP} {s : Fr}, RepF Z p s → RepF Z (scrapGP p l) (scrapG s l)
  | [], _, _, h => h
  | (k, m) :: l, p, s, h => scrapG_rep (l := l) (p := wrGP (updP p k (.box k 0)) k 0 (List.replicate m .poison)) (s := wrG (upd s k (fake k 0)) k 0 (List.replicate m poison)) (RepF.wrG (h.upd (.box k 0)) (replicate_rep Z m))

theorem pois_rep {Z : Fz} {p : FrP} {s : Fr} (h : RepF Z p s) (ws : List Nat) : RepF Z (poisP p ws) (pois s ws) := by
  intro t
  unfold poisP pois
  cases (Nat.blt t 65536 && memN ws t)
  · exact h t
  · exact .poison _

theorem mix_rep {Z : Fz} {p : PSt} {s : St} (hr : Rel2 Z p s) (ws : List Nat) {c : CutP} {a : TupP c.live} {b : Tup c.live.er} (h : RepTup Z c.live a b) : Rel2 Z (mixP p ws c a) (mix s ws c.er b) :=
  setLive_rep (l := c.live) (p := { p with σ := scrapGP (poisP p.σ ws) c.scrap }) (s := { s with σ := scrapG (pois s.σ ws) c.scrap }) ⟨hr.D, scrapG_rep (pois_rep hr.slot ws)⟩ h

theorem scrapOk_rep {Z : Fz} {p : PSt} {s : St} (hr : Rel2 Z p s) : ∀ {l : List (Nat × Nat)}, scrapOkP p l = true → scrapOk s l = true
  | [], _ => rfl
  | (k, m) :: l, h => by
    simp only [scrapOkP, Bool.and_eq_true] at h
    simp only [scrapOk, Bool.and_eq_true]
    refine ⟨⟨by rw [← hr.D]; exact h.1.1, ?_⟩, scrapOk_rep hr h.2⟩
    have h1 := h.1.2
    have hs := hr.slot k
    unfold isBoxP at h1
    split at h1
    · rename_i k' o he
      rw [he] at hs
      rw [hs.ofBox]
      exact h1
    · cases h1

theorem toJ_rep {Z : Fz} {p : PSt} {s : St} (hr : Rel2 Z p s) {c : CutP} {J : TupP c.live → Mem → Prop} {J' : Tup c.er.live → UW → Prop} {μ : Mem} {u : UW} (h : toJP c J p μ) (hJ : ∀ a b, RepTup Z c.live a b → J a μ → J' b u) : toJ c.er J' s u := by
  unfold toJP at h
  unfold toJ
  cases hs : scrapOkP p c.scrap with
  | false => rw [hs] at h; exact h.elim
  | true =>
    rw [hs] at h
    have : scrapOk s c.er.scrap = true := scrapOk_rep hr hs
    rw [this]
    simp only [cond_true] at h ⊢
    cases hg : getLiveP p c.live with
    | none => rw [hg] at h; exact h.elim
    | some a =>
      rw [hg] at h
      obtain ⟨b, hb, hrb⟩ := getLive_rep hr hg
      have hb' : getLive s c.er.live = some b := hb
      rw [hb']
      exact hJ a b hrb h

/-! ### types -/
theorem kindsVF_er (P : Program) (r : Bool) : ∀ (f : Nat) (t : TypeId) {ks : List KV}, kindsVF P r f t = some ks → kindsF P f t = some (ks.map KV.er)
  | 0, _, _, h => by simp [kindsVF] at h
  | f + 1, t, ks, h => by
    unfold kindsVF at h
    unfold kindsF
    cases hu : P.underlying t with
    | none => rw [hu] at h; cases h
    | some d =>
      rw [hu] at h
      cases d <;> simp only at h ⊢ <;> try (cases h; done)
      case int => cases h; rfl
      case bool => cases h; rfl
      case string => cases h; rfl
      case slice => cases r <;> (cases h; rfl)
      case pointer => cases h; rfl
      case func => cases h; rfl
      case map => cases h; rfl
      case struct fs =>
        generalize fs.toList = l at h
        induction l generalizing ks with
        | nil => simp only [List.foldr_nil, Option.some.injEq] at h; subst h; rfl
        | cons x l ih =>
          simp only [List.foldr_cons] at h ⊢
          split at h
          · rename_i a b ha hb
            simp only [Option.some.injEq] at h
            subst h
            rw [kindsVF_er P r f x.type ha, ih _ hb]
            simp
          · cases h
      case array n e =>
        cases hk : kindsVF P r f e with
        | none => rw [hk] at h; cases h
        | some ks' =>
          rw [hk] at h
          simp only [Option.some.injEq] at h
          subst h
          rw [kindsVF_er P r f e hk]
          simp [List.map_flatten, List.map_replicate]

theorem kindsV_er {P : Program} {r : Bool} {t : TypeId} {ks : List KV} (h : kindsV P r t = some ks) : kinds P t = some (ks.map KV.er) := by
  unfold kindsV at h
  unfold kinds
  cases hk : kindsVF P r 8 t with
  | none => rw [hk] at h; cases h
  | some ks' =>
    rw [hk] at h
    rw [kindsVF_er P r 8 t hk]
    simp only at h ⊢
    rw [List.length_map]
    cases h1 : Nat.beq ks'.length (P.cellsOf t) with
    | false => rw [h1] at h; cases h
    | true =>
      rw [h1] at h
      cases h2 : (aggT P t || Nat.beq ks'.length 1) with
      | false => rw [h2] at h; cases h
      | true =>
        rw [h2] at h
        simp only [cond_true, Option.some.injEq] at h ⊢
        subst h; rfl

theorem exKV_elim {Z : Fz} {k : KV} {F : PV → Prop} (h : exKV k F) : ∃ p, p.cell = true ∧ F p ∧ ∀ {G : Value → Prop} {v : Value}, Rep Z p v → G v → exK k.er G := by
  cases k with
  | raw k =>
    cases k <;> simp only [exKV, exK] at h
    case int => obtain ⟨x, h⟩ := h; exact ⟨_, rfl, h, fun hr hG => by rw [hr.ofRaw.1] at hG; exact ⟨_, hG⟩⟩
    case bool => obtain ⟨x, h⟩ := h; exact ⟨_, rfl, h, fun hr hG => by rw [hr.ofRaw.1] at hG; exact ⟨_, hG⟩⟩
    case str => obtain ⟨x, h⟩ := h; exact ⟨_, rfl, h, fun hr hG => by rw [hr.ofRaw.1] at hG; exact ⟨_, hG⟩⟩
    case slice => obtain ⟨a, n, c, h⟩ := h; exact ⟨_, rfl, h, fun hr hG => by rw [hr.ofRaw.1] at hG; exact ⟨_, _, _, hG⟩⟩
    case ptr => obtain ⟨x, h⟩ := h; exact ⟨_, rfl, h, fun hr hG => by rw [hr.ofRaw.1] at hG; exact ⟨_, hG⟩⟩
    case fn => obtain ⟨f, a, b, h⟩ := h; exact ⟨_, rfl, h, fun hr hG => by rw [hr.ofRaw.1] at hG; exact ⟨_, _, _, hG⟩⟩
    case map => obtain ⟨x, h⟩ := h; exact ⟨_, rfl, h, fun hr hG => by rw [hr.ofRaw.1] at hG; exact ⟨_, hG⟩⟩
  | list sz =>
    obtain ⟨fl, rows, h⟩ := h
    exact ⟨_, rfl, h, fun hr hG => by obtain ⟨a, n, c, rfl, _⟩ := hr.ofList; exact ⟨_, _, _, hG⟩⟩
  | fn =>
    obtain ⟨f, a, b, h⟩ := h
    exact ⟨_, rfl, h, fun hr hG => by obtain ⟨fv, cv, rfl, _⟩ := hr.ofFn; exact ⟨_, _, _, hG⟩⟩

theorem exLV_elim {Z : Fz} : ∀ {ks : List KV} {F : List PV → Prop}, exLV ks F → ∃ ps, ps.length = ks.length ∧ allCell ps = true ∧ F ps ∧ ∀ {G : List Value → Prop} {vs : List Value}, RepM Z ps vs → G vs → exL (ks.map KV.er) G
  | [], F, h => ⟨[], rfl, rfl, h, fun hr hG => by rw [hr.inv0] at hG; exact hG⟩
  | k :: ks, F, h => by
    obtain ⟨p, hp, h, hk⟩ := exKV_elim (Z := Z) h
    obtain ⟨ps, hl, hc, h, hks⟩ := exLV_elim (Z := Z) h
    refine ⟨p :: ps, by simp [hl], by simp only [allCell, List.all_cons, hp, Bool.true_and]; exact hc, h, fun hr hG => ?_⟩
    obtain ⟨v, vs, rfl, h1, h2⟩ := hr.inv
    exact hk h1 (hks (G := fun vs => _) h2 hG)

theorem mk_rep {Z : Fz} {b : Bool} {ps : List PV} {vs : List Value} (h : RepC Z ps vs) : Rep Z (mkP b ps) (mkV b vs) := by
  cases b with
  | true => exact h.toAgg
  | false =>
    match ps, h with
    | [], h => exact .poison _
    | [p], h =>
      obtain ⟨v, vs', rfl, h1, h2, h3⟩ := h.inv
      rw [h3.inv0]; exact h2
    | p :: p' :: ps, h => exact .poison _

theorem mkP_ok {P : Program} {r : Bool} {t : TypeId} {ks : List KV} (h : kindsV P r t = some ks) {ps : List PV} (hl : ps.length = ks.length) (hc : allCell ps = true) : (mkP (aggT P t) ps).ok = true := by
  unfold kindsV at h
  split at h
  · rename_i ks' hk
    cases h1 : Nat.beq ks'.length (P.cellsOf t) with
    | false => rw [h1] at h; cases h
    | true =>
      rw [h1] at h
      cases h2 : (aggT P t || Nat.beq ks'.length 1) with
      | false => rw [h2] at h; cases h
      | true =>
        rw [h2] at h
        simp only [cond_true, Option.some.injEq] at h
        subst h
        cases ha : aggT P t with
        | true => rfl
        | false =>
          rw [ha] at h2
          simp only [Bool.false_or, beq_iff] at h2
          rw [h2] at hl
          match ps, hl with
          | [p], _ =>
            simp only [allCell, List.all_cons, List.all_nil, Bool.and_true] at hc
            exact PV.ok_cell hc
  · cases h

theorem exVP_elim {Z : Fz} {P : Program} {r : Bool} {t : TypeId} {F : PV → Prop} (h : exVP P r t F) : ∃ p, p.ok = true ∧ F p ∧ ∀ {G : Value → Prop} {v : Value}, Rep Z p v → G v → exV P t G := by
  unfold exVP at h
  cases hk : kindsV P r t with
  | none => rw [hk] at h; exact h.elim
  | some ks =>
    rw [hk] at h
    obtain ⟨ps, hl, hc, hF, hex⟩ := exLV_elim (Z := Z) h
    refine ⟨_, mkP_ok hk hl hc, hF, fun {G v} hr hG => ?_⟩
    unfold exV
    rw [kindsV_er hk]
    have hok := mkP_ok hk hl hc
    cases ha : aggT P t with
    | true =>
      rw [ha] at hr
      obtain ⟨vs, rfl, hcs⟩ := Rep.ofAgg (ps := ps) hr
      exact hex (G := fun vs => G (mkV true vs)) hcs.m hG
    | false =>
      rw [ha] at hr hok
      match ps, hr, hok with
      | [], hr, hok => simp [mkP, PV.ok, PV.cell] at hok
      | [p], hr, hok => exact hex (G := fun vs => G (mkV false vs)) (RepM.cons hr (RepM.nil Z)) hG
      | p :: p' :: ps, hr, hok => simp [mkP, PV.ok, PV.cell] at hok

theorem exVsP_elim {Z : Fz} {P : Program} {r : Bool} : ∀ {ts : List TypeId} {F : List PV → Prop}, exVsP P r ts F → ∃ ps, allOk ps = true ∧ F ps ∧ ∀ {G : List Value → Prop} {vs : List Value}, RepM Z ps vs → G vs → exVs P ts G
  | [], F, h => ⟨[], rfl, h, fun hr hG => by rw [hr.inv0] at hG; exact hG⟩
  | t :: ts, F, h => by
    obtain ⟨p, hp, h, hk⟩ := exVP_elim (Z := Z) h
    obtain ⟨ps, hc, h, hks⟩ := exVsP_elim (Z := Z) h
    refine ⟨p :: ps, by simp only [allOk, List.all_cons, hp, Bool.true_and]; exact hc, h, fun hr hG => ?_⟩
    obtain ⟨v, vs, rfl, h1, h2⟩ := hr.inv
    exact hk h1 (hks (G := fun vs => _) h2 hG)

theorem exRP_elim {Z : Fz} {P : Program} {r : Bool} {t : TypeId} {F : PV → Prop} (h : exRP P r t F) : ∃ p, F p ∧ ∀ {G : Value → Prop} {v : Value}, Rep Z p v → G v → exR P t G := by
  unfold exRP at h
  unfold exR
  split at h
  · rename_i ts hu
    obtain ⟨ps, _, hF, hex⟩ := exVsP_elim (Z := Z) h
    refine ⟨_, hF, fun {G v} hr hG => ?_⟩
    obtain ⟨vs, rfl, hc⟩ := hr.ofTup
    rw [hu]
    exact hex (G := fun vs => G (.tuple vs.toArray)) hc.m hG
  · rename_i hu
    obtain ⟨p, _, hF, hex⟩ := exVP_elim (Z := Z) h
    refine ⟨p, hF, fun {G v} hr hG => ?_⟩
    split
    · rename_i ts h2; exact absurd h2 (hu ts)
    · exact hex hr hG

end Go.Eng
