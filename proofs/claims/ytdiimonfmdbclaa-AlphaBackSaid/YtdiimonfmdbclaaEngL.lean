import Derived.Test.YtdiimonfmdbclaaEngN
/-
  The engine, twelfth part: W is sound; from W to a function's contract.
-/
namespace Go.Eng
open Go.RowKit

section
variable {E : Env} {C : Ctx}

theorem Wl_sound {fz ws : List Nat} {ops : Array Oper} {Q : Exit → St → UW → Prop} {st0 : St} (hok : ∀ o ∈ ops.toList, okOper C.n o = true) (hws : ∀ o ∈ ops.toList, ∀ t, o.dst = some t → t ∈ ws) :
    ∀ (l : List Oper) (i : Nat), ops.toList.drop i = l → ∀ (st : St) (u : UW) (a : Act) (wa : World) (θ : Nat → Nat), Inv C a wa st u θ → Pres C.n fz ws st0 st → Wl E fz ops (Q .normal) l st u →
      wpOpsIn (Fw C.ro) 0 E.P ops (QW C fz ws st0 Q) (List.range' i l.length) a wa
  | [], i, _, st, u, a, wa, θ, hI, hP, h => ⟨st, u, θ, hI, hP, h⟩
  | o :: l, i, hd, st, u, a, wa, θ, hI, hP, h => by
    have hi : ops.toList[i]? = some o := by
      have := congrArg (·[0]?) hd
      simpa using this
    have hmem : o ∈ ops.toList := List.mem_of_getElem? hi
    have hoi : ops[i]? = some o := by simpa using hi
    have hd' : ops.toList.drop (i + 1) = l := by
      have := congrArg (List.drop 1) hd
      simpa [List.drop_drop, Nat.add_comm] using this
    have hoko := hok o hmem
    have presTo : ∀ {s s' : St}, Pres C.n fz ws st0 s → Pres C.n fz o.dst.toList s s' → Pres C.n fz ws st0 s' := by
      intro s s' h1 h2
      have := h1.trans h2
      refine this.mono (fun _ h => h) fun x hx => ?_
      rw [List.mem_append] at hx
      rcases hx with hx | hx
      · exact hx
      · cases hdst : o.dst with
        | none => simp [hdst] at hx
        | some d => simp only [hdst, Option.toList, List.mem_singleton] at hx; exact hws o hmem x (by rw [hdst, hx])
    have go : ∀ {s : St}, Inv C a wa s u θ → Pres C.n fz ws st0 s → W1 E fz o s u (fun st' w' => Wl E fz ops (Q .normal) l st' w') → o.wpIn (Fw C.ro) 0 E.P a wa (wpOpsIn (Fw C.ro) 0 E.P ops (QW C fz ws st0 Q) (List.range' (i + 1) l.length)) (QW C fz ws st0 Q) := by
      intro s hIs hPs h1
      have := W1_sound (Q := QW C fz ws st0 Q) hoko hIs h1
      refine wpIn_of_upon C.ro (okOper_defer hoko) (upon_mono (fun a' w' hp => ?_) this)
      obtain ⟨st', u', θ', hI', hP', _, _, hW⟩ := hp
      exact Wl_sound hok hws l (i + 1) hd' st' u' a' w' θ' hI' (presTo hPs hP') hW
    have skip : ∀ {s : St}, Inv C a wa s u θ → Pres C.n fz ws st0 s → Wl E fz ops (Q .normal) l (fin o s undef) u → (∀ f, o.about E.P wa a.eval = some f → (Fw C.ro).fn f) ∧ wpOpsIn (Fw C.ro) 0 E.P ops (QW C fz ws st0 Q) (List.range' (i + 1) l.length) (a.put o.dst undef) wa := by
      intro s hIs hPs h1
      exact ⟨fun _ _ => trivial, Wl_sound hok hws l (i + 1) hd' _ u _ wa θ (hIs.finP o.dst (dst_lt hoko) rfl) (presTo hPs (Pres.fin s o.dst (dst_lt hoko) hI.n_le undef)) h1⟩
    simp only [List.length_cons, List.range'_succ, wpOpsIn, hoi]
    simp only [Wl] at h
    cases hg : o.guard with
    | none =>
      simp only [hg] at h
      have hw : Region.wanted o (yielded ops a.tmps) = true := by simp [Region.wanted, hg]
      rw [if_pos hw]
      exact go hI hP h
    | some jb =>
      obtain ⟨j, b⟩ := jb
      simp only [hg] at h
      cases hgs : gslot ops j with
      | none => simp only [hgs] at h
      | some g =>
        simp only [hgs] at h
        have hgn : g < C.n := by
          unfold gslot at hgs
          cases hj : ops[j]? with
          | none => simp [hj] at hgs
          | some oj =>
            simp only [hj, Option.bind_some] at hgs
            exact dst_lt (hok oj (by have : ops.toList[j]? = some oj := by simpa using hj
                                     exact List.mem_of_getElem? this)) g hgs
        have hyl : yielded ops a.tmps j = match a.tmps.getD g undef with | .bool x => some x | _ => none := by
          unfold yielded
          unfold gslot at hgs
          rw [hgs, Option.bind_some, getD_some hI.size hgn]
          cases a.tmps.getD g undef <;> rfl
        have hslot := hI.slots g hgn
        split at h
        · rename_i c hc
          rw [hc, R_plain rfl] at hslot
          rw [hslot] at hyl
          have hw : Region.wanted o (yielded ops a.tmps) = (c == b) := by
            simp only [Region.wanted, hg, hyl]
            cases c <;> cases b <;> rfl
          rw [hw]
          cases c with
          | true =>
            simp only [CIf] at h
            rw [upd_self hc] at h
            cases b with
            | true => simp only at h; exact go hI hP h
            | false => simp only at h; exact skip hI hP h
          | false =>
            simp only [CIf] at h
            rw [upd_self hc] at h
            cases b with
            | true => simp only at h; exact skip hI hP h
            | false => simp only at h; exact go hI hP h
        · rename_i vs hc
          rw [hc, R_plain rfl] at hslot
          rw [hslot] at hyl
          have hw : Region.wanted o (yielded ops a.tmps) = false := by simp [Region.wanted, hg, hyl]
          rw [hw]
          exact skip hI hP h
        · exact h.elim

def okCode (n : Nat) : Code → Bool
  | .region _ ops _ => ops.toList.all (okOper n)
  | .seq a b => okCode n a && okCode n b
  | .cond c a b => okOp n c && okCode n a && okCode n b
  | .block _ a => okCode n a
  | .loop a => okCode n a
  | .rangeFunc f ps a b => okOp n f && ps.toList.all (fun p => Nat.blt p n) && okCode n a && okCode n b
  | _ => true

theorem least {p : Nat → Prop} (h : ∃ n, p n) : ∃ n, p n ∧ ∀ m, p m → n ≤ m := by
  obtain ⟨n, hn⟩ := h
  induction n using Nat.strongRecOn with
  | _ n ih =>
    by_cases h : ∃ m, m < n ∧ p m
    · obtain ⟨m, h1, h2⟩ := h; exact ih m h1 h2
    · exact ⟨n, hn, fun m hm => Nat.le_of_not_lt fun hlt => h ⟨m, hlt, hm⟩⟩

/-- A loop, with something beside the machine's state that goes down. -/
theorem wp_loopG {F : Fence} {n0 : Nat} {P : Program} {c : Code} {Q : Exit → Act → World → Prop} (I : Nat → Act → World → Prop)
    (round : ∀ n a w, I n a w → c.wpIn F n0 P (Exit.then (fun a' w' => ∃ m, m < n ∧ I m a' w') Q) a w) : ∀ (n : Nat) (a : Act) (w : World), I n a w → (Code.loop c).wpIn F n0 P Q a w := by
  classical
  intro n a w h0
  let μ : Act → World → Nat := fun a w => if h : ∃ n, I n a w then Classical.choose (least h) else 0
  refine wpIn_loop (fun a w => ∃ n, I n a w) μ ⟨n, h0⟩ fun a w hI => ?_
  have hs := Classical.choose_spec (least hI)
  have hμ : μ a w = Classical.choose (least hI) := by simp only [μ, dif_pos hI]
  refine wpIn_mono (round _ a w hs.1) fun e a' w' hq => ?_
  cases e with
  | normal =>
    obtain ⟨m, hm, hI'⟩ := hq
    have hx : ∃ n, I n a' w' := ⟨m, hI'⟩
    have hs' := Classical.choose_spec (least hx)
    have hμ' : μ a' w' = Classical.choose (least hx) := by simp only [μ, dif_pos hx]
    exact ⟨⟨m, hI'⟩, by rw [hμ, hμ']; exact Nat.lt_of_le_of_lt (hs'.2 m hI') hm⟩
  | _ => exact hq

theorem range'_range (n : Nat) : List.range' 0 n = List.range n := (List.range_eq_range').symm

/-- What W's soundness says of a piece of code. -/
def Sound (E : Env) (c : Code) : Prop := ∀ (C : Ctx), okCode C.n c = true → ∀ (fz : List Nat) (Q : Exit → St → UW → Prop) (st : St) (u : UW) (a : Act) (wa : World) (θ : Nat → Nat), Inv C a wa st u θ → W E fz c Q st u →
    c.wpIn (Fw C.ro) 0 E.P (QW C fz (writes c) st Q) a wa

theorem isLoop_cells {o : Obj} (h : isLoop o = true) : o.isCells = false := by cases o <;> simp_all [isLoop, Obj.isCells]

/-- A block is made that the engine does not know. -/
theorem Inv.allocHid {a : Act} {wa : World} {st : St} {u : UW} {θ : Nat → Nat} (hI : Inv C a wa st u θ) (o : Obj) (ho : o.isCells = false) : Inv C a (wa.alloc o) st u θ ∧ Hid u (wa.alloc o) wa.heap.size o := by
  have hB : Below wa.heap.size wa (wa.alloc o) := (Below.refl _ _).alloc (Nat.le_refl _) o
  refine ⟨hI.world (u' := u) (F := fun _ => False) (fun _ hf => hf.elim) (Below.toMod hB (Nat.le_refl _) _) ?_ (Mod.refl _ _) (fun b h1 _ h3 => by omega) (fun b hb => Nat.lt_of_lt_of_le (hI.pubs b hb) hB.size) (fun _ hb _ => hb), World.alloc_heap_new wa o, ho, fun hp => ?_, fun hl => ?_⟩
  · refine ⟨hI.below.os, hI.below.tape, hI.below.output, Nat.le_trans hI.below.size hB.size, fun b hb => ?_⟩
    rw [hB.block b (Nat.lt_of_lt_of_le hb hI.below.size)]
    exact hI.below.block b hb
  · have := hI.pubs _ hp; omega
  · have := hI.below.size; omega

theorem putObj_get {w : World} {l b : Nat} {o : Obj} (h : b ≠ l) : (w.putObj l o).heap[b]? = w.heap[b]? := World.putObj_heap_other h

/-- A loop's record turns, and the engine forgets it. -/
theorem Inv.forget {a : Act} {wa : World} {st : St} {u : UW} {θ : Nat → Nat} {l : Nat} {o o1 o2 : Obj} (hI : Inv C a wa st u θ) (hl : C.w1.heap.size ≤ l) (hu : u.heap[l]? = some o) (ho : isLoop o = true) (hw : wa.heap[l]? = some o1) (ho1 : isLoop o1 = true) :
    Inv C a (wa.putObj l o2) st ⟨u.toWorld.putObj l masked, fun b => u.pub b ∧ b ≠ l⟩ θ := by
  have hlu : l < u.heap.size := (Array.getElem?_eq_some_iff.1 hu).1
  have hlw : l < wa.heap.size := (Array.getElem?_eq_some_iff.1 hw).1
  have w01 := hI.w01
  have keep : ∀ {b : Nat} {ob : Obj}, b ≠ l → Hid u wa b ob → Hid ⟨u.toWorld.putObj l masked, fun b => u.pub b ∧ b ≠ l⟩ (wa.putObj l o2) b ob := fun {b ob} hne hh =>
    ⟨(putObj_get hne).trans hh.at_, hh.other, fun hp => hh.pub hp.1, fun hlt => (putObj_get hne).trans (hh.mask (by simpa using hlt))⟩
  refine ⟨hI.size, hI.n_le, ⟨fun d hd => ?_, hI.defers.nodup⟩, fun l0 r e => ?_, hI.slots, ?_, ?_, hI.inj, hI.fakes, hI.ghosts, ?_, ?_, ?_, ?_, hI.w01, ?_, hI.F0⟩
  · obtain ⟨r, e, hr, hh⟩ := hI.defers.each d hd
    refine ⟨r, e, hr, keep ?_ hh⟩
    rintro rfl
    have := hh.at_; rw [hw] at this; cases this; cases ho1
  · have hh := hI.round l0 r e
    refine keep ?_ hh
    rintro rfl
    have := hh.mask hlu; rw [hu] at this; cases this; cases ho
  · refine ⟨hI.below.os, hI.below.tape, hI.below.output, by simpa using hI.below.size, fun b hb => ?_⟩
    by_cases e : b = l
    · subst e; exact .inr (World.putObj_heap_same hlu)
    · have := hI.below.block b (by simpa using hb)
      show (u.toWorld.putObj l masked).heap[b]? = _ ∨ (u.toWorld.putObj l masked).heap[b]? = _
      rw [putObj_get e, putObj_get e]; exact this
  · intro k m hk
    obtain ⟨hmm, c, T, h1, h2, h3, h4, h5, h6⟩ := hI.boxes k m hk
    have hne : θ k ≠ l := by
      intro e; rw [e, hw] at h1; cases h1; cases ho1
    exact ⟨hmm, c, T, (putObj_get hne).trans h1, h2, h3, fun hp => h4 hp.1, h5, fun hlt => (putObj_get hne).trans (h6 (by simpa using hlt))⟩
  · intro b hb; simpa using hI.pubs b hb.1
  · exact ⟨hI.mod.os, hI.mod.tape, hI.mod.output, by simpa using hI.mod.size, fun b hb hF => (putObj_get (by omega)).trans (hI.mod.keep b hb hF)⟩
  · exact fun b hb hlt => hI.pubF b hb.1 hlt
  · exact ⟨hI.umod.os, hI.umod.tape, hI.umod.output, by simpa using hI.umod.size, fun b hb hF => (putObj_get (by omega)).trans (hI.umod.keep b hb hF)⟩
  · intro b h1 h2 h3
    exact (putObj_get (by omega)).trans (hI.hid b h1 h2 (by simpa using h3))

/-- A round's own record turns. -/
theorem Inv.turn {a : Act} {wa : World} {st : St} {u : UW} {θ : Nat → Nat} {l : Nat} {r : Loop} (hI : Inv C a wa st u θ) (hro : C.ro = some (l, r)) (r' : Loop) :
    Inv { C with w1 := C.w1.putObj l (.loop r'), ro := some (l, r') } a (wa.putObj l (.loop r')) st u θ := by
  have hl := hI.round l r hro
  have hlw : l < wa.heap.size := (Array.getElem?_eq_some_iff.1 hl.at_).1
  have keep : ∀ {b : Nat} {ob : Obj}, b ≠ l → Hid u wa b ob → Hid u (wa.putObj l (.loop r')) b ob := fun {b ob} hne hh => ⟨(putObj_get hne).trans hh.at_, hh.other, hh.pub, hh.mask⟩
  refine ⟨hI.size, hI.n_le, ⟨fun d hd => ?_, hI.defers.nodup⟩, fun l0 r0 e => ?_, hI.slots, ?_, ?_, hI.inj, hI.fakes, hI.ghosts, ?_, ?_, ?_, hI.umod, by simpa using hI.w01, ?_, hI.F0⟩
  · obtain ⟨r0, e, hr, hh⟩ := hI.defers.each d hd
    refine ⟨r0, e, by simpa using hr, keep ?_ hh⟩
    rintro rfl
    have := hh.at_; rw [hl.at_] at this; cases this
  · simp only [Option.some.injEq, Prod.mk.injEq] at e
    obtain ⟨rfl, rfl⟩ := e
    exact ⟨World.putObj_heap_same hlw, rfl, hl.pub, hl.mask⟩
  · refine ⟨hI.below.os, hI.below.tape, hI.below.output, by simpa using hI.below.size, fun b hb => ?_⟩
    by_cases e : b = l
    · subst e; exact .inr (hl.mask hb)
    · rw [putObj_get e]; exact hI.below.block b hb
  · intro k m hk
    obtain ⟨hmm, c, T, h1, h2, h3, h4, h5, h6⟩ := hI.boxes k m hk
    have hne : θ k ≠ l := by
      intro e; rw [e, hl.at_] at h1; cases h1
    exact ⟨hmm, c, T, (putObj_get hne).trans h1, h2, h3, h4, by simpa using h5, h6⟩
  · intro b hb; simpa using hI.pubs b hb
  · refine ⟨hI.mod.os, hI.mod.tape, hI.mod.output, by simpa using hI.mod.size, fun b hb hF => ?_⟩
    by_cases e : b = l
    · subst e
      show (wa.putObj b (.loop r')).heap[b]? = (C.w1.putObj b (.loop r')).heap[b]?
      rw [World.putObj_heap_same hlw, World.putObj_heap_same (by simpa using hb)]
    · show (wa.putObj l (.loop r')).heap[b]? = (C.w1.putObj l (.loop r')).heap[b]?
      rw [putObj_get e, putObj_get e]; exact hI.mod.keep b (by simpa using hb) hF
  · exact fun b hb hlt => hI.pubF b hb (by simpa using hlt)
  · intro b h1 h2 h3; exact hI.hid b h1 (by simpa using h2) h3

def recOf (r : Loop) (p : Option Code) : Obj := .loop { r with state := if p.isNone then .ready else .done, pending := p }

theorem exVs_elim2 {P : Program} : ∀ {ts : List TypeId} {F : List Value → Prop}, exVs P ts F → ∃ vs, vs.length = ts.length ∧ (∀ v ∈ vs, plain v = true) ∧ F vs
  | [], _, h => ⟨[], rfl, by simp, h⟩
  | t :: ts, F, h => by
    obtain ⟨v, hp, h⟩ := exV_elim h
    obtain ⟨vs, hl, hps, h⟩ := exVs_elim2 h
    exact ⟨v :: vs, by simp [hl], by simpa using ⟨hp, hps⟩, h⟩

theorem rndS_R {θ θ' : Nat → Nat} {σ : Fr} {t : Nat} {r : Value} (h : R θ (σ t) r) : R θ' (rndS σ t) r := by
  unfold rndS
  split
  · trivial
  · rename_i v hv
    have hp : plain (σ t) = true := by
      cases hx : σ t <;> first | rfl | (exact absurd hx (hv _ _ _))
    rw [R_plain hp] at h ⊢
    exact h

theorem rndS_fake {σ : Fr} {t k o : Nat} : rndS σ t ≠ fake k o := by
  unfold rndS
  split
  · intro h; cases h
  · rename_i v hv
    intro h
    exact hv _ _ _ h

theorem setPs_slots {θ : Nat → Nat} {n : Nat} : ∀ (ps : List Nat) (vs : List Value) (σ : Fr) (tm : Array Value), ps.length = vs.length → tm.size = n → (∀ p ∈ ps, p < n) → (∀ v ∈ vs, plain v = true) → (∀ t, t < n → R θ (σ t) (tm.getD t undef)) → (∀ t k o, σ t ≠ fake k o) →
    ((ps.zip vs).foldl (fun t (x : Nat × Value) => t.setIfInBounds x.1 x.2) tm).size = n ∧ (∀ t, t < n → R θ (setPs σ ps vs t) (((ps.zip vs).foldl (fun t (x : Nat × Value) => t.setIfInBounds x.1 x.2) tm).getD t undef)) ∧ ∀ t k o, setPs σ ps vs t ≠ fake k o
  | [], [], σ, tm, _, hs, _, _, h, hf => ⟨hs, h, hf⟩
  | p :: ps, v :: vs, σ, tm, hl, hs, hps, hvs, h, hf => by
    have hp : p < tm.size := by rw [hs]; exact hps p (by simp)
    have hpl := hvs v (by simp)
    simp only [List.zip_cons_cons, List.foldl_cons, setPs]
    refine setPs_slots ps vs (upd σ p v) (tm.setIfInBounds p v) (by simpa using hl) (by simpa using hs) (fun q hq => hps q (by simp [hq])) (fun w hw => hvs w (by simp [hw])) (fun t ht => ?_) (fun t k o e => ?_)
    · rw [getD_set _ _ _ _ hp]
      by_cases e : t = p
      · subst e; rw [if_pos rfl, upd_same]; exact R_refl hpl
      · rw [if_neg e, upd_ne _ _ e]; exact h t ht
    · by_cases e' : t = p
      · subst e'; rw [upd_same] at e; exact not_fake hpl k o e
      · rw [upd_ne _ _ e'] at e; exact hf t k o e
  | [], _ :: _, _, _, hl, _, _, _, _, _ => by simp at hl
  | _ :: _, [], _, _, hl, _, _, _, _, _ => by simp at hl

theorem foldl_zip (ps : Array Nat) (vs : List Value) (tm : Array Value) :
    (ps.zip vs.toArray).foldl (fun t (p, v) => t.setIfInBounds p v) tm = (ps.toList.zip vs).foldl (fun t (x : Nat × Value) => t.setIfInBounds x.1 x.2) tm := by
  rw [← Array.foldl_toList, Array.toList_zip]

/-- A call of yield runs a round. -/
theorem yield_sound {E : Env} {n : Nat} {x y : Code} {ps : Array Nat} {ts : List TypeId} {σ : Fr} {θ : Nat → Nat} {l : Nat} {r : Loop} (ihx : Sound E x) (ihy : Sound E y) (okx : okCode n x = true) (oky : okCode n y = true)
    (hn : n ≤ 65536) (hps : ∀ p ∈ ps.toList, p < n) (hts : ts.length = ps.toList.length) (hsz : r.tmps.size = n) (hsl : ∀ t, t < n → R θ (σ t) (r.tmps.getD t undef)) (hrp : r.params = ps) (hrx : r.assign = x) (hry : r.body = y)
    (vs : List Value) (w1 : World) (F : Nat → Prop) (RR : Option Code → UW → Prop) (hl : w1.heap[l]? = some (recOf r none)) (hF : ∀ b, F b → b < w1.heap.size ∧ b ≠ l)
    (h : exVs E.P ts fun vs' => vs = vs' ∧ W E [] x (normQ fun st1 u1 => W E [] y (roundQ RR) st1 u1) ⟨setPs (rndS σ) ps.toList vs', []⟩ ⟨w1.putObj l masked, F⟩) :
    ValB E.P (.func (.yield l) #[] #[]) vs w1 (fun b => F b ∨ b = l) fun v lo w2 => ∃ p pub w3, v = .bool p.isNone ∧ w2 = w3.putObj l (recOf r p) ∧ w3.heap[l]? = some masked ∧ (∀ b, pub b → F b ∨ lo ≤ b) ∧ RR p ⟨w3, pub⟩ := by
  intro wr1 hsees
  obtain ⟨vs', hlen, hpl, rfl, hW⟩ := exVs_elim2 h
  have hlw : l < w1.heap.size := (Array.getElem?_eq_some_iff.1 hl).1
  have hl1 : wr1.heap[l]? = some (recOf r none) := by
    rcases hsees.block l hlw with e | e
    · rw [← e]; exact hl
    · rw [hl] at e; cases e
  refine ⟨rfl, rfl, { r with state := .ready, pending := none }, hl1, by simp only [hrp]; rw [hlen, hts]; simp, roundIn_of_wpIn (F := Fence.wide) trivial ?_⟩
  simp only [hrp, hrx, hry]
  rw [foldl_zip]
  obtain ⟨z1, z2, z3⟩ := setPs_slots (θ := fun _ => 0) ps.toList vs (rndS σ) r.tmps (by omega) hsz hps hpl (fun t ht => rndS_R (hsl t ht)) (fun t k o => rndS_fake)
  have hI1 : Inv ⟨n, w1.putObj l masked, wr1, F, some (l, { r with state := .ready, pending := none })⟩ { tmps := (ps.toList.zip vs).foldl (fun t (x : Nat × Value) => t.setIfInBounds x.1 x.2) r.tmps, defers := [] } wr1 ⟨setPs (rndS σ) ps.toList vs, []⟩ ⟨w1.putObj l masked, F⟩ (fun _ => 0) := by
    refine ⟨z1, hn, ⟨by simp, List.nodup_nil⟩, fun l0 r0 e => ?_, z2, ?_, by simp, by simp, fun t _ k o e => absurd e (z3 t k o), by simp, fun b hb => Nat.lt_of_lt_of_le (hF b hb).1 hsees.size, Mod.refl _ _, fun b hb _ => hb, Mod.refl _ _, by simpa using hsees.size, fun b h1 _ h3 => absurd h3 (Nat.not_lt.2 h1), fun b hb => by simpa using (hF b hb).1⟩
    · simp only [Option.some.injEq, Prod.mk.injEq] at e
      obtain ⟨rfl, rfl⟩ := e
      exact ⟨hl1, rfl, fun hp => (hF _ hp).2 rfl, fun _ => World.putObj_heap_same hlw⟩
    · refine ⟨hsees.os, hsees.tape, hsees.output, by simpa using hsees.size, fun b hb => ?_⟩
      by_cases e : b = l
      · subst e; exact .inr (World.putObj_heap_same hlw)
      · show (w1.putObj l masked).heap[b]? = _ ∨ (w1.putObj l masked).heap[b]? = _
        rw [putObj_get e]; exact hsees.block b (by simpa using hb)
  refine wpIn_mono (ihx ⟨n, w1.putObj l masked, wr1, F, some (l, { r with state := .ready, pending := none })⟩ okx [] _ _ _ _ _ _ hI1 hW) fun e a2 wa2 hq => ?_
  obtain ⟨st2, u2, θ2, hI2, _, hq⟩ := hq
  cases e with
  | normal =>
    refine ⟨_, run_beginRound (hI2.round l _ rfl).at_ rfl, ?_⟩
    have hI3 := hI2.turn rfl { r with state := .busy, pending := none }
    refine wpIn_mono (ihy _ oky [] _ _ _ _ _ _ hI3 hq) fun e a3 wa3 hq => ?_
    obtain ⟨st3, u3, θ3, hI4, _, hq⟩ := hq
    have hh := hI4.round l _ rfl
    have hlw3 : l < wa3.heap.size := (Array.getElem?_eq_some_iff.1 hh.at_).1
    have hus : w1.heap.size ≤ u3.heap.size := by simpa using hI4.umod.size
    have done : ∀ (p : Option Code), RR p u3 → ∃ v w', (Instr.endRound l p).run E.P wa3 = .ok v w' ∧ ∃ v' w'', Ending.returned v = .returned v' ∧ Out (fun b => F b ∨ b = l) w1 wr1 w'' w' ∧ ∃ p' pub w3, v' = .bool p'.isNone ∧ w'' = w3.putObj l (recOf r p') ∧ w3.heap[l]? = some masked ∧ (∀ b, pub b → F b ∨ wr1.heap.size ≤ b) ∧ RR p' ⟨w3, pub⟩ := by
      intro p hR
      refine ⟨_, _, run_endRound p hh.at_, _, u3.toWorld.putObj l (recOf r p), rfl, ⟨?_, ?_, ?_, ?_⟩, p, u3.pub, u3.toWorld, rfl, rfl, hh.mask (by omega), fun b hb => ?_, hR⟩
      · refine ⟨hI4.mod.os, hI4.mod.tape, hI4.mod.output, by simpa using hI4.mod.size, fun b hb hnF => ?_⟩
        have hne : b ≠ l := fun e => hnF (.inr e)
        rw [putObj_get hne, hI4.mod.keep b (by simpa using hb) (fun hf => hnF (.inl hf))]
        exact putObj_get hne
      · refine ⟨hI4.below.os, hI4.below.tape, hI4.below.output, by simpa using hI4.below.size, fun b hb => ?_⟩
        by_cases e : b = l
        · subst e
          left
          rw [World.putObj_heap_same (by simpa using hb), World.putObj_heap_same hlw3]
          rfl
        · rw [putObj_get e, putObj_get e]; exact hI4.below.block b (by simpa using hb)
      · refine ⟨hI4.umod.os, hI4.umod.tape, hI4.umod.output, by simpa using hus, fun b hb hnF => ?_⟩
        have hne : b ≠ l := fun e => hnF (.inr e)
        rw [putObj_get hne, hI4.umod.keep b (by simpa using hb) (fun hf => hnF (.inl hf))]
        exact putObj_get hne
      · intro b h1 h2 h3
        rw [putObj_get (by omega)]
        exact hI4.hid b (by simpa using h1) (by simpa using h2) (by simpa using h3)
      · by_cases hlt : b < wr1.heap.size
        · exact .inl (hI4.pubF b hb (by simpa using hlt))
        · exact .inr (by omega)
    cases e with
    | normal => exact done none hq
    | ret => exact done (some .ret) hq
    | exit i => exact done (some (.exit i)) hq
    | goto i => exact hq.elim
    | panic c => exact hq.elim
    | outgrown => exact hq.elim
  | exit i => exact hq.elim
  | goto i => exact hq.elim
  | ret => exact hq.elim
  | panic c => exact hq.elim
  | outgrown => exact hq.elim

theorem lookP_elim {Q : Nat → Prop} {i : Nat} : ∀ {l : List Nat}, lookP (l.map fun j => (j, Q j)) i → Q i
  | [], h => h.elim
  | j :: l, h => by
    simp only [List.map_cons, lookP, Bool.cond_eq_ite, beq_iff] at h
    split at h
    · rename_i e; subst e; exact h
    · exact lookP_elim h

theorem range_sound {E : Env} {f : Operand} {ps : Array Nat} {x y : Code} (ihx : Sound E x) (ihy : Sound E y) : Sound E (.rangeFunc f ps x y) := by
  intro C hokc fz Q st u a wa θ hI h
  simp only [okCode, Bool.and_eq_true, List.all_eq_true] at hokc
  obtain ⟨⟨⟨hof, hps⟩, hox⟩, hoy⟩ := hokc
  simp only [W] at h
  cases hts : look E.rngs (ps.toList.headD 0) with
  | none => simp only [hts] at h
  | some ts =>
    simp only [hts] at h
    obtain ⟨hlen, ⟨g, fa, fb, hfv⟩, h⟩ := bif_elim h
    have hlen := beq_iff.1 hlen
    have hef : a.eval f = .func (.func g) fa fb := ev_val hI hof hfv rfl
    refine wpIn_rangeFunc fun fn _ => ?_
    obtain ⟨D, l, mark, pre, hent, hle, hIp⟩ : ∃ (D l : Nat) (mark : List Deferred) (pre : World), (Instr.enterLoop fn a.tmps ps x y (Fw C.ro).round).run E.P wa = .ok (l, mark) (pre.alloc (.loop { state := .ready, pending := none, fn, tmps := a.tmps, params := ps, assign := x, body := y, defers := D })) ∧
        l = pre.heap.size ∧ Inv C { a with defers := mark ++ a.defers } pre st u θ := by
      cases hro : C.ro with
      | none =>
        obtain ⟨hI1, hh⟩ := hI.allocHid (.deferred (some [])) rfl
        refine ⟨wa.heap.size, wa.heap.size + 1, _, wa.alloc (.deferred (some [])), run_enterLoop_outer fn a.tmps ps x y, by simp, ⟨hI1.size, hI1.n_le, ⟨fun d hd => ?_, ?_⟩, hI1.round, hI1.slots, hI1.below, hI1.boxes, hI1.inj, hI1.fakes, hI1.ghosts, hI1.pubs, hI1.mod, hI1.pubF, hI1.umod, hI1.w01, hI1.hid, hI1.F0⟩⟩
        · simp only [List.cons_append, List.nil_append, List.mem_cons] at hd
          rcases hd with rfl | hd
          · exact ⟨wa.heap.size, rfl, hI.mod.size, hh⟩
          · exact hI1.defers.each d hd
        · simp only [List.cons_append, List.nil_append]
          refine List.nodup_cons.2 ⟨fun hd => ?_, hI1.defers.nodup⟩
          obtain ⟨r, e, _, hr⟩ := hI.defers.each _ hd
          simp only [Deferred.mk.injEq, Target.collected.injEq] at e
          have := (Array.getElem?_eq_some_iff.1 hr.at_).1
          omega
      | some lr =>
        obtain ⟨l0, r0⟩ := lr
        exact ⟨r0.defers, wa.heap.size, [], wa, run_enterLoop_inner (hI.round l0 r0 hro).at_ fn a.tmps ps x y, rfl, hI⟩
    subst hle
    obtain ⟨r, hr⟩ : ∃ r : Loop, r = { state := .ready, pending := none, fn, tmps := a.tmps, params := ps, assign := x, body := y, defers := D } := ⟨_, rfl⟩
    rw [← hr] at hent
    obtain ⟨w', hborn, hI2⟩ := hIp.born (.loop r)
    have hrn : recOf r none = .loop r := by rw [hr]; rfl
    have hcall := h pre.heap.size (recOf r) w' (fun p => rfl) (by rw [hrn]; exact hborn) (fun vs w1 F RR hl hF hb =>
      yield_sound (θ := θ) ihx ihy hox hoy hI.n_le (fun p hp => blt_iff.1 (hps p hp)) hlen (by rw [hr]; exact hI.size) (by rw [hr]; exact hI.slots) (by rw [hr]) (by rw [hr]) (by rw [hr]) vs w1 F RR hl hF hb)
    obtain ⟨F, hF, hcall⟩ := CallV_iff.1 hcall
    have hc := hcall _ hI2.below
    rw [hfv] at hc
    obtain ⟨hcl, hc⟩ := hc
    refine ⟨pre.heap.size, mark, pre.alloc (.loop r), { target := .fn (.func g) fb, args := fa ++ #[.func (.yield pre.heap.size) #[] #[]] }, pre.alloc (.loop r), g, fa ++ #[.func (.yield pre.heap.size) #[] #[]] ++ fb, pre.alloc (.loop r), hent, ?_, fun _ _ => trivial, ?_, fun h => (by cases h), ?_⟩
    · simp [resolve, hef, Deferred.ofValue]; rfl
    · simp only [invoke]
      exact run_callFunc hcl
    · have hargs : (fa ++ #[Value.func (.yield pre.heap.size) #[] #[]] ++ fb) = (fa.toList ++ [Value.func (.yield pre.heap.size) #[] #[]] ++ fb.toList).toArray := by
        apply Array.toList_inj.1; simp
      rw [hargs]
      refine callsIn_wide.2 (hc.mono fun e wr hp => ?_)
      obtain ⟨v, w2, rfl, hout, p, hrec, hK⟩ := hp
      have hI3 := hI2.ret hF hout
      have hrl : wr.heap[pre.heap.size]? = some (recOf r p) := by
        rcases hI3.below.block _ (Array.getElem?_eq_some_iff.1 hrec).1 with e | e
        · rw [← e]; exact hrec
        · rw [hrec] at e; cases e
      refine ⟨p, _, run_endLoop hrl (by cases p <;> simp), ?_⟩
      have hI4 := hI3.forget (o2 := .loop { r with state := .exhausted, pending := p }) hIp.mod.size hrec rfl hrl rfl
      have hP : Pres C.n fz (writes (.rangeFunc f ps x y)) st st := Pres.refl _ _ _ _
      unfold PK at hK
      split at hK
      · exact ⟨st, _, θ, hI4, hP, hK⟩
      · refine wpIn_ret ⟨st, _, θ, hI4, hP, ?_⟩
        exact (bif_elim hK).2
      · refine wpIn_exit ⟨st, _, θ, hI4, hP, ?_⟩
        exact lookP_elim (Q := fun i => Q (.exit i) st _) hK
      · exact hK.elim

theorem W_sound (c : Code) : Sound E c := by
  induction c with
  | skip => intro C hokc fz Q st u a wa θ hI h; exact wpIn_skip ⟨st, u, θ, hI, Pres.refl _ _ _ _, h⟩
  | ret => intro C hokc fz Q st u a wa θ hI h; exact wpIn_ret ⟨st, u, θ, hI, Pres.refl _ _ _ _, h⟩
  | exit i => intro C hokc fz Q st u a wa θ hI h; exact wpIn_exit ⟨st, u, θ, hI, Pres.refl _ _ _ _, h⟩
  | region id ops draw =>
    intro C hokc fz Q st u a wa θ hI h
    simp only [okCode, List.all_eq_true] at hokc
    cases draw with
    | true =>
      simp only [W] at h
      obtain ⟨hm, h⟩ := bif_elim h
      cases hp : mkPlan ops with
      | none => simp only [hp] at h
      | some p =>
        simp only [hp] at h
        exact Wd_region hm hokc (fun o ho t ht => by simp only [writes, List.mem_filterMap]; exact ⟨o, ho, ht⟩) hp hI h
    | false =>
      simp only [W] at h
      refine wpIn_region ?_
      have := Wl_sound (E := E) (Q := Q) (st0 := st) (ws := writes (.region id ops false)) hokc (fun o ho t ht => by simp only [writes, List.mem_filterMap]; exact ⟨o, ho, ht⟩) ops.toList 0 rfl st u a wa θ hI (Pres.refl _ _ _ _) h
      rw [Array.length_toList, range'_range] at this
      exact this
  | seq x y ihx ihy =>
    intro C hokc fz Q st u a wa θ hI h
    simp only [okCode, Bool.and_eq_true] at hokc
    simp only [W] at h
    refine wpIn_seq ?_
    split at h
    · refine wpIn_mono (ihx C hokc.1 fz _ st u a wa θ hI h) fun e a' wa' hq => ?_
      obtain ⟨st', u', θ', hI', hP', hq⟩ := hq
      cases e with
      | normal =>
        refine wpIn_mono (ihy C hokc.2 fz Q st' u' a' wa' θ' hI' hq) fun e a'' wa'' hq => ?_
        obtain ⟨st'', u'', θ'', hI'', hP'', hq⟩ := hq
        exact ⟨st'', u'', θ'', hI'', hP'.trans hP'', hq⟩
      | exit i => exact ⟨st', u', θ', hI', hP'.mono (fun _ h => h) (fun _ h => List.mem_append_left _ h), hq⟩
      | goto i => exact ⟨st', u', θ', hI', hP'.mono (fun _ h => h) (fun _ h => List.mem_append_left _ h), hq⟩
      | ret => exact ⟨st', u', θ', hI', hP'.mono (fun _ h => h) (fun _ h => List.mem_append_left _ h), hq⟩
      | panic i => exact ⟨st', u', θ', hI', hP'.mono (fun _ h => h) (fun _ h => List.mem_append_left _ h), hq⟩
      | outgrown => exact ⟨st', u', θ', hI', hP'.mono (fun _ h => h) (fun _ h => List.mem_append_left _ h), hq⟩
    · rename_i cut _
      obtain ⟨hl, J, hA, hB⟩ := bif_elim h
      have weak : ∀ {s : St}, Pres C.n (freeze fz st.D cut) (writes x) st s → Pres C.n fz (writes x ++ writes y) st s := fun hp =>
        hp.mono (fun z hz => List.mem_append_left _ hz) (fun z hz => List.mem_append_left _ hz)
      refine wpIn_mono (ihx C hokc.1 (freeze fz st.D cut) _ st u a wa θ hI hA) fun e a' wa' hq => ?_
      obtain ⟨st', u', θ', hI', hP', hq⟩ := hq
      cases e with
      | normal =>
        simp only [thenQ, toJ] at hq
        obtain ⟨hs, hq⟩ := bif_elim hq
        cases hgl : getLive st' cut.live with
        | none => simp only [hgl] at hq
        | some s =>
          simp only [hgl] at hq
          obtain ⟨hIm, hPm⟩ := mix_ok hI hI' hP' hl hs hgl
          refine wpIn_mono (ihy C hokc.2 fz Q _ u' a' wa' θ' hIm (hB s u' hq)) fun e a'' wa'' hq => ?_
          obtain ⟨st'', u'', θ'', hI'', hP'', hq⟩ := hq
          exact ⟨st'', u'', θ'', hI'', hPm.trans hP'', hq⟩
      | exit i => exact ⟨st', u', θ', hI', weak hP', hq⟩
      | goto i => exact ⟨st', u', θ', hI', weak hP', hq⟩
      | ret => exact ⟨st', u', θ', hI', weak hP', hq⟩
      | panic i => exact ⟨st', u', θ', hI', weak hP', hq⟩
      | outgrown => exact ⟨st', u', θ', hI', weak hP', hq⟩
  | cond c x y ihx ihy =>
    intro C hokc fz Q st u a wa θ hI h
    simp only [okCode, Bool.and_eq_true] at hokc
    obtain ⟨⟨hc, hx⟩, hy⟩ := hokc
    simp only [W] at h
    split at h
    · rename_i t ht
      refine wpIn_cond (ev_val hI hc ht rfl) ?_
      cases t with
      | true =>
        refine wpIn_mono (ihx C hx fz Q st u a wa θ hI h) fun e a' wa' hq => ?_
        obtain ⟨st', u', θ', hI', hP', hq⟩ := hq
        exact ⟨st', u', θ', hI', hP'.mono (fun _ h => h) (fun _ h => List.mem_append_left _ h), hq⟩
      | false =>
        refine wpIn_mono (ihy C hy fz Q st u a wa θ hI h) fun e a' wa' hq => ?_
        obtain ⟨st', u', θ', hI', hP', hq⟩ := hq
        exact ⟨st', u', θ', hI', hP'.mono (fun _ h => h) (fun _ h => List.mem_append_right _ h), hq⟩
    · exact h.elim
  | block id x ih =>
    intro C hokc fz Q st u a wa θ hI h
    simp only [W] at h
    refine wpIn_block (wpIn_mono (ih C hokc fz _ st u a wa θ hI h) fun e a' wa' hq => ?_)
    obtain ⟨st', u', θ', hI', hP', hq⟩ := hq
    cases e with
    | exit i =>
      simp only [blockQ, Bool.cond_eq_ite, beq_iff] at hq
      simp only [Exit.inBlock]
      split at hq
      · rename_i e; rw [if_pos e]; exact ⟨st', u', θ', hI', hP', hq⟩
      · rename_i e; rw [if_neg e]; exact ⟨st', u', θ', hI', hP', hq⟩
    | normal => exact ⟨st', u', θ', hI', hP', hq⟩
    | goto i => exact ⟨st', u', θ', hI', hP', hq⟩
    | ret => exact ⟨st', u', θ', hI', hP', hq⟩
    | panic i => exact ⟨st', u', θ', hI', hP', hq⟩
    | outgrown => exact ⟨st', u', θ', hI', hP', hq⟩
  | loop x ih =>
    intro C hokc fz Q st u a wa θ hI h
    simp only [W] at h
    split at h
    · exact h.elim
    · rename_i cut _
      obtain ⟨hl, h⟩ := bif_elim h
      simp only [toJ] at h
      obtain ⟨hs, h⟩ := bif_elim h
      cases hgl : getLive st cut.live with
      | none => simp only [hgl] at h
      | some s0 =>
        simp only [hgl] at h
        obtain ⟨I, ⟨n0, hI0⟩, hround⟩ := h
        have hP0 : Pres C.n (freeze fz st.D cut) (writes x) st st := Pres.refl _ _ _ _
        obtain ⟨hIm, hPm⟩ := mix_ok hI hI hP0 hl hs hgl
        refine wp_loopG (fun n a' wa' => ∃ s u' θ', Inv C a' wa' (mix st (writes x) cut s) u' θ' ∧ I n s u' ∧ Pres C.n fz (writes x) st (mix st (writes x) cut s)) ?_ n0 a wa ⟨s0, u, θ, hIm, hI0, hPm⟩
        intro n a' wa' hh
        obtain ⟨s, u', θ', hI', hIs, hPs⟩ := hh
        have hb := hround n s u' hIs
        refine wpIn_mono (ih C hokc _ _ _ u' a' wa' θ' hI' hb) fun e a'' wa'' hq => ?_
        obtain ⟨st2, u2, θ2, hI2, hP2, hq⟩ := hq
        have hP2' : Pres C.n fz (writes x) st st2 := by
          have := hPs.trans (hP2.mono (fz' := fz) (fun z hz => List.mem_append_left _ hz) (fun z hz => hz))
          exact this.mono (fun _ h => h) (fun z hz => by rw [List.mem_append] at hz; exact hz.elim id id)
        cases e with
        | normal =>
          simp only [thenQ, toJ] at hq
          obtain ⟨hs2, hq⟩ := bif_elim hq
          cases hgl2 : getLive st2 cut.live with
          | none => simp only [hgl2] at hq
          | some s2 =>
            simp only [hgl2] at hq
            have hfr : Pres C.n (freeze fz st.D cut) (writes x) st st2 := by
              have h1 : Pres C.n (freeze fz st.D cut) (writes x) st (mix st (writes x) cut s) := ⟨hPs.slot, hPs.D, fun k hk m hm j hj => ?_⟩
              · have := h1.trans hP2
                exact this.mono (fun _ h => h) (fun z hz => by rw [List.mem_append] at hz; exact hz.elim id id)
              · exact (mix_frz hI hl (writes x) s) k hk m hm j hj
            obtain ⟨hIm2, hPm2⟩ := mix_ok hI hI2 hfr hl hs2 hgl2
            obtain ⟨m, hm, hq⟩ := hq
            exact ⟨m, hm, s2, u2, θ2, hIm2, hq, hPm2⟩
        | exit i => exact ⟨st2, u2, θ2, hI2, hP2', hq⟩
        | goto i => exact ⟨st2, u2, θ2, hI2, hP2', hq⟩
        | ret => exact ⟨st2, u2, θ2, hI2, hP2', hq⟩
        | panic i => exact ⟨st2, u2, θ2, hI2, hP2', hq⟩
        | outgrown => exact ⟨st2, u2, θ2, hI2, hP2', hq⟩
  | rangeFunc f ps x y ihx ihy => exact range_sound ihx ihy
  | scope x ih => intro C hokc fz Q st u a wa θ hI h; exact h.elim
  | label l => intro C hokc fz Q st u a wa θ hI h; exact h.elim
  | goto l => intro C hokc fz Q st u a wa θ hI h; exact h.elim
  | refuse s => intro C hokc fz Q st u a wa θ hI h; exact h.elim

end
end Go.Eng
