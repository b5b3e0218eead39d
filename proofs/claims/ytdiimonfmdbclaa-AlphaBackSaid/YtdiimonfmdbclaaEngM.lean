import Derived.Test.YtdiimonfmdbclaaEngL
/-
  The engine, thirteenth part: from a function's formula to its contract; contracts used at calls.
-/
namespace Go.Eng
open Go.RowKit

def okRes (n : Nat) : ResultVar → Bool
  | .tmp t => Nat.blt t n
  | .cell t _ => Nat.blt t n

def okFn (n : Nat) (c : Code) (rs : List ResultVar) (args : List Value) : Bool := okCode n c && Nat.ble n 65536 && rs.all (okRes n) && Nat.ble args.length n && args.all plain

def rget (tmps : Array Value) : ResultVar → Sem Value
  | .tmp t => pure (tmps.getD t undef)
  | .cell x t => do loadVar t (← asAddr (tmps.getD x undef))

section
variable {C : Ctx} {a : Act} {wa : World} {st : St} {u : UW} {θ : Nat → Nat}

theorem rget_cell {P : Program} {tmps : Array Value} {x : Nat} {t : TypeId} {ad : Addr} {v : Value} {w : World} (h : tmps.getD x undef = .pointer (some ad)) (hl : (loadVar t ad).run P w = .ok v w) : (rget tmps (.cell x t)).run P w = .ok v w := by
  simp only [rget, Sem.run_bind, h, asAddr, Sem.run_pure, Result.andThen_ok, hl]

theorem rcons {P : Program} {tmps : Array Value} {r : ResultVar} {rs : List ResultVar} {v : Value} {vs : List Value} {w : World} (h : (rget tmps r).run P w = .ok v w) (hs : (rs.mapM (rget tmps)).run P w = .ok vs w) :
    ((r :: rs).mapM (rget tmps)).run P w = .ok (v :: vs) w := by
  simp only [List.mapM_cons, Sem.run_bind, h, Result.andThen_ok, hs, Sem.run_pure]

theorem resQ_sound {P : Program} (hI : Inv C a wa st u θ) : ∀ (rs : List ResultVar) (F : List Value → Prop), (∀ r ∈ rs, okRes C.n r = true) → resQ P st u rs F →
    ∃ vs, (rs.mapM (rget a.tmps)).run P wa = .ok vs wa ∧ F vs
  | [], F, _, h => ⟨[], by simp, h⟩
  | .tmp t :: rs, F, hok, h => by
    simp only [resQ] at h
    obtain ⟨hp, h⟩ := bif_elim h
    obtain ⟨vs, hr, hF⟩ := resQ_sound hI rs _ (fun r hr => hok r (by simp [hr])) h
    have htn : okRes C.n (.tmp t) = true := hok _ (by simp)
    have ht := hI.slots t (blt_iff.1 htn)
    rw [R_plain hp] at ht
    exact ⟨_, rcons (by simp only [rget, Sem.run_pure, ht]) hr, hF⟩
  | .cell x t :: rs, F, hok, h => by
    simp only [resQ] at h
    have htn : okRes C.n (.cell x t) = true := hok _ (by simp)
    have hx : x < C.n := blt_iff.1 htn
    have hs := hI.slots x hx
    cases hk : kinds P t with
    | none => simp only [hk] at h
    | some ks =>
      simp only [hk] at h
      obtain ⟨hl1, ⟨d, hu⟩, hl2⟩ := kinds_spec hk
      split at h
      · rename_i k off he
        cases hb : boxSize st.D k with
        | none => simp only [hb] at h
        | some m =>
          simp only [hb] at h
          obtain ⟨hc, h⟩ := bif_elim h
          simp only [Bool.and_eq_true, Nat.ble_eq] at hc
          obtain ⟨h1, h2⟩ := hc
          obtain ⟨_, c, T, b1, b2, b3, _⟩ := hI.boxes k m (boxSize_mem hb)
          have hlist := cells_drop_take b2 b3 ks.length off h1 (all_plain h2)
          obtain ⟨vs, hr, hF⟩ := resQ_sound hI rs _ (fun r hr => hok r (by simp [hr])) h
          rw [he] at hs
          have hs' : a.tmps.getD x undef = .pointer (some ⟨θ k, off, none⟩) := hs
          exact ⟨_, rcons (rget_cell hs' (by rw [run_loadVar hk b1 (show off + ks.length ≤ c.size by omega), hlist])) hr, hF⟩
      · obtain ⟨b, off, hv, h⟩ := withPtr_elim h
        obtain ⟨us, hlen, hp, hrd, h⟩ := exL_elim h
        obtain ⟨vs, hr, hF⟩ := resQ_sound hI rs _ (fun r hr => hok r (by simp [hr])) h
        rw [hv, R_plain rfl] at hs
        by_cases hz : ks.length = 0
        · have hag : aggT P t = true := hl2.resolve_right (by omega)
          have hvs : us = [] := List.eq_nil_of_length_eq_zero (by omega)
          subst hvs
          obtain ⟨i, hi⟩ := info_of_under hu
          refine ⟨_, rcons (rget_cell hs ?_) hr, hF⟩
          simp only [loadVar, Sem.run_bind, run_isAgg hu, hag, if_true, run_size hi, ← hl1, hz, Result.andThen_ok]
          rfl
        · obtain ⟨c, T, f, c1, c2, c3⟩ := rd_sees hI.below hrd hz
          exact ⟨_, rcons (rget_cell hs (by rw [run_loadVar hk c1 c2, ← c3])) hr, hF⟩

theorem results_run {P : Program} {fn : Func} {rs : List ResultVar} (hrs : fn.results.toList = rs) {vs : List Value} (h : (rs.mapM (rget a.tmps)).run P wa = .ok vs wa) :
    (results fn a.tmps).run P wa = .ok (match vs with | [v] => v | vs => .tuple vs.toArray) wa := by
  have e : results fn a.tmps = (do let vs ← fn.results.mapM (rget a.tmps); pure (if h : vs.size = 1 then vs[0] else .tuple vs) : Sem Value) := by
    unfold results
    congr 1
  rw [e, Array.mapM_eq_mapM_toList, hrs]
  simp only [Sem.run_bind, Sem.run_map, h, Result.andThen_ok, Sem.run_pure]
  match vs with
  | [] => rfl
  | [v] => rfl
  | v :: v' :: vs => simp

end

/-- A mark is taken. -/
theorem Inv.unmark {C : Ctx} {a : Act} {wa : World} {st : St} {u : UW} {θ : Nat → Nat} {d : Deferred} {ds : List Deferred} {r : Nat} (hI : Inv C a wa st u θ) (hd : a.defers = d :: ds) (he : d = { target := .collected r, args := #[] }) :
    Inv C { a with defers := ds } (wa.putObj r (.deferred none)) st u θ := by
  obtain ⟨r', e', hr, hh⟩ := hI.defers.each d (by rw [hd]; simp)
  rw [he] at e'
  simp only [Deferred.mk.injEq, Target.collected.injEq, and_true] at e'
  subst e'
  have hnd : (d :: ds).Nodup := hd ▸ hI.defers.nodup
  have keep : ∀ {b : Nat} {ob : Obj}, b ≠ r → Hid u wa b ob → Hid u (wa.putObj r (.deferred none)) b ob := fun {b ob} hne hh => ⟨(putObj_get hne).trans hh.at_, hh.other, hh.pub, hh.mask⟩
  refine ⟨hI.size, hI.n_le, ⟨fun d' hd' => ?_, (List.nodup_cons.1 hnd).2⟩, fun l0 r0 e => keep ?_ (hI.round l0 r0 e), hI.slots, ?_, ?_, hI.inj, hI.fakes, hI.ghosts, ?_, ?_, hI.pubF, hI.umod, hI.w01, hI.hid, hI.F0⟩
  · obtain ⟨r1, e1, h1, hh1⟩ := hI.defers.each d' (by rw [hd]; simp [hd'])
    refine ⟨r1, e1, h1, keep ?_ hh1⟩
    rintro rfl
    rw [← he] at e1
    subst e1
    exact (List.nodup_cons.1 hnd).1 hd'
  · rintro rfl
    have := (hI.round l0 r0 e).at_; rw [hh.at_] at this; cases this
  · refine ⟨hI.below.os, hI.below.tape, hI.below.output, by simpa using hI.below.size, fun b hb => ?_⟩
    by_cases e : b = r
    · subst e; exact .inr (hh.mask hb)
    · rw [putObj_get e]; exact hI.below.block b hb
  · intro k m hk
    obtain ⟨hmm, c, T, h1, h2, h3, h4, h5, h6⟩ := hI.boxes k m hk
    have hne : θ k ≠ r := by
      intro e; rw [e, hh.at_] at h1; cases h1
    exact ⟨hmm, c, T, (putObj_get hne).trans h1, h2, h3, h4, h5, h6⟩
  · intro b hb; simpa using hI.pubs b hb
  · exact ⟨hI.mod.os, hI.mod.tape, hI.mod.output, by simpa using hI.mod.size, fun b hb hF => (putObj_get (by omega)).trans (hI.mod.keep b hb hF)⟩

/-- The way out of a function, its marks taken. -/
theorem leaves_marks {P : Program} {fn : Func} {rs : List ResultVar} {R : Value → UW → Prop} {C : Ctx} {st : St} {u : UW} {θ : Nat → Nat} {G : Ending → World → Prop} (hrs : fn.results.toList = rs) (hok : ∀ r ∈ rs, okRes C.n r = true) :
    ∀ (ds : List Deferred) (a : Act) (wa : World), a.defers = ds → Inv C a wa st u θ → resQ P st u rs (tupR R u) → (∀ wr v, Out C.F C.w0 C.w1 u.toWorld wr → R v u → G (.returned v) wr) → LeavesInM Fence.wide 0 P fn a.tmps G ds .returning wa
  | [], a, wa, _, hI, hq, hG => by
    obtain ⟨vs, hrun, hR⟩ := resQ_sound hI rs _ hok hq
    refine ⟨_, results_run hrs hrun, hG _ _ ⟨hI.mod, hI.below, hI.umod, hI.hid⟩ ?_⟩
    unfold tupR at hR
    match vs, hR with
    | [], hR => exact hR
    | [v], hR => exact hR
    | v :: v' :: vs, hR => exact hR
  | d :: ds, a, wa, hd, hI, hq, hG => by
    obtain ⟨r, he, hr, hh⟩ := hI.defers.each d (by rw [hd]; simp)
    refine ⟨by simp, .inl ⟨r, _, by rw [he], run_takeDeferred hh.at_, ?_⟩⟩
    exact leaves_marks hrs hok ds { a with defers := ds } _ rfl (hI.unmark hd he) hq hG

/-- A function whose formula holds keeps its contract. -/
theorem WF_sound {P : Program} {f : FuncId} {fn : Func} {c : Code} {n : Nat} {priv : List Nat} {loops joins : List (Nat × Cut)} {rngs : List (Nat × List TypeId)} {rs : List ResultVar} {args : List Value} {w : World} {F : Nat → Prop} {R : Value → UW → Prop}
    (hf : P.funcs[f]? = some fn) (hb : fn.body = some c) (hnt : fn.ntmps = n) (hrs : fn.results.toList = rs) (hok : okFn n c rs args = true) (hF : ∀ b, F b → b < w.heap.size)
    (h : WF P n priv loops joins rngs c rs args ⟨w, F⟩ R) : FnB P f args.toArray w F fun v lo w' => ∃ pub, (∀ b, pub b → F b ∨ lo ≤ b) ∧ R v ⟨w', pub⟩ := by
  simp only [okFn, Bool.and_eq_true, Nat.ble_eq, List.all_eq_true] at hok
  obtain ⟨⟨⟨⟨hc, hn⟩, hr⟩, hal⟩, hpl⟩ := hok
  intro w1 hsees
  refine (callsIn_wide (n := 0)).1 (callsIn_of_wp_marks hf hb trivial ?_)
  have hI : Inv ⟨n, w, w1, F, none⟩ { tmps := args.toArray ++ Array.replicate (fn.ntmps - args.toArray.size) undef, defers := [] } w1 ⟨argF args, []⟩ ⟨w, F⟩ (fun _ => 0) := by
    have hgetD : ∀ t, (args.toArray ++ Array.replicate (fn.ntmps - args.toArray.size) undef).getD t undef = argF args t := by
      intro t
      rw [Array.getD_eq_getD_getElem?]
      unfold argF
      by_cases ht : t < args.length
      · rw [Array.getElem?_append_left (by simpa using ht)]
        simp
      · rw [Array.getElem?_append_right (by simp; omega), List.getElem?_eq_none (by omega), Array.getElem?_replicate]
        split <;> rfl
    have hplain : ∀ t, plain (argF args t) = true := by
      intro t
      unfold argF
      cases hg : args[t]? with
      | none => rfl
      | some v => exact hpl v (List.mem_of_getElem? hg)
    refine ⟨by simp [hnt]; omega, hn, ⟨by simp, List.nodup_nil⟩, fun l r e => (by cases e), fun t _ => ?_, hsees, by simp, by simp, fun t _ k o e => absurd e (not_fake (hplain t) k o), by simp, fun b hb => Nat.lt_of_lt_of_le (hF b hb) hsees.size, Mod.refl _ _, fun b hb _ => hb, Mod.refl _ _, hsees.size, fun b h1 _ h3 => absurd h3 (Nat.not_lt.2 h1), hF⟩
    rw [hgetD]
    exact R_refl (hplain t)
  refine wpIn_mono (W_sound (E := ⟨P, n, priv, loops, joins, rngs⟩) c ⟨n, w, w1, F, none⟩ hc [] _ _ _ _ _ _ hI h) fun e a' wa' hq => ?_
  obtain ⟨st', u', θ', hI', _, hq⟩ := hq
  have key : resQ P st' u' rs (tupR R u') → LeavesInM Fence.wide 0 P fn a'.tmps (fun e wr => ∃ v w', e = .returned v ∧ Out F w w1 w' wr ∧ ∃ pub, (∀ b, pub b → F b ∨ w1.heap.size ≤ b) ∧ R v ⟨w', pub⟩) a'.defers .returning wa' := by
    intro hq
    refine leaves_marks hrs hr a'.defers a' wa' rfl hI' hq fun wr v hout hR => ⟨v, u'.toWorld, rfl, hout, u'.pub, fun b hb => ?_, hR⟩
    by_cases hlt : b < w1.heap.size
    · exact .inl (hI'.pubF b hb hlt)
    · exact .inr (by omega)
  cases e with
  | normal => exact key hq
  | ret => exact key hq
  | exit i => exact hq.elim
  | goto i => exact hq.elim
  | panic i => exact hq.elim
  | outgrown => exact hq.elim

/-! ### contracts at calls -/
theorem FnB.mono {P : Program} {f : FuncId} {args : Array Value} {w : World} {F : Nat → Prop} {K K' : Value → Nat → World → Prop} (h : FnB P f args w F K) (hk : ∀ v lo w', Mod F w w' → w.heap.size ≤ lo → K v lo w' → K' v lo w') :
    FnB P f args w F K' := by
  intro w1 hs
  refine (h w1 hs).mono fun e wr hp => ?_
  obtain ⟨v, w', rfl, ho, hK⟩ := hp
  exact ⟨v, w', rfl, ho, hk v _ w' ho.umod hs.size hK⟩

/-- A function that touches nothing that was there. -/
def FnA (P : Program) (f : FuncId) (args : Array Value) (w : World) (K : Value → World → Prop) : Prop := FnB P f args w (fun _ => False) fun v _ w' => K v w'

theorem Mod.below {w w' : World} (h : Mod (fun _ => False) w w') : Below w.heap.size w w' := ⟨h.os, h.tape, h.output, h.size, fun b hb => h.keep b hb id⟩

theorem CallF.a {P : Program} {f : FuncId} {args : Array Value} {u : UW} {R : Value → World → Prop} {K : Value → UW → Prop} (h : FnA P f args u.toWorld R) (hk : ∀ v lo w', Below u.heap.size u.toWorld w' → R v w' → K v (u.ret lo w')) : CallF P f args u K :=
  ⟨fun _ => False, fun _ hf => hf.elim, h.mono fun v lo w' hm _ hR => hk v lo w' hm.below hR⟩

theorem CallF.b {P : Program} {f : FuncId} {args : Array Value} {u : UW} {F : Nat → Prop} {R : Value → Nat → World → Prop} {K : Value → UW → Prop} (h : FnB P f args u.toWorld F R) (hF : ∀ b, F b → u.pub b)
    (hk : ∀ v lo w', Mod F u.toWorld w' → u.heap.size ≤ lo → R v lo w' → K v (u.ret lo w')) : CallF P f args u K :=
  ⟨F, hF, h.mono fun v lo w' hm hl hR => hk v lo w' hm hl hR⟩

/-- From the formula to the contract of a function that touches nothing that was there. -/
theorem FnA.of {P : Program} {f : FuncId} {fn : Func} {c : Code} {n : Nat} {priv : List Nat} {loops joins : List (Nat × Cut)} {rngs : List (Nat × List TypeId)} {rs : List ResultVar} {args : List Value} {w : World} {K : Value → World → Prop}
    (hf : P.funcs[f]? = some fn) (hb : fn.body = some c) (hnt : fn.ntmps = n) (hrs : fn.results.toList = rs) (hok : okFn n c rs args = true)
    (h : WF P n priv loops joins rngs c rs args ⟨w, fun _ => False⟩ fun v u => K v u.toWorld) : FnA P f args.toArray w K :=
  (WF_sound hf hb hnt hrs hok (fun _ h => h.elim) h).mono fun _ _ _ _ _ ⟨_, _, hK⟩ => hK

/-- The last step: the machine's call itself. -/
theorem FnA.calls {P : Program} {f : FuncId} {args : Array Value} {w : World} {K : Value → World → Prop} (h : FnA P f args w K) : Calls P f args w fun e w' => (∃ v w2, e = .returned v ∧ K v w2) ∧ Below w.heap.size w w' :=
  (h w (Sees.refl w)).mono fun _ _ ⟨v, w', he, ho, hK⟩ => ⟨⟨v, w', he, hK⟩, ho.mod.below⟩

end Go.Eng
