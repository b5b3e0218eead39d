import Derived.Test.YtdiimonfmdbclaaEngU
/-
  The engine, for its users: function values that are called; sequences; loops over functions.
-/
namespace Go.Eng
open Go.RowKit

theorem Sees.trans {a b c : World} (h : Sees a b) (k : Sees b c) : Sees a c :=
  ⟨k.os.trans h.os, k.tape.trans h.tape, k.output.trans h.output, Nat.le_trans h.size k.size, fun i hi => by
    rcases h.block i hi with e | e
    · rcases k.block i (Nat.lt_of_lt_of_le hi h.size) with e' | e'
      · exact .inl (e.trans e')
      · exact .inr (e.trans e')
    · exact .inr e⟩

theorem VCalls.mono {P : Program} {f : Value} {args : List Value} {w : World} {R R' : Ending → World → Prop} (h : VCalls P f args w R) (hr : ∀ e w', R e w' → R' e w') : VCalls P f args w R' := by
  unfold VCalls at *
  split at h
  · exact ⟨h.1, h.2.mono hr⟩
  · obtain ⟨h1, h2, r, h3, h4, h5⟩ := h
    exact ⟨h1, h2, r, h3, h4, h5.mono hr⟩
  · exact h

theorem ValB.mono {P : Program} {f : Value} {args : List Value} {w : World} {F : Nat → Prop} {K K' : Value → Nat → World → Prop} (h : ValB P f args w F K) (hk : ∀ v lo w', Mod F w w' → w.heap.size ≤ lo → lo ≤ lo → K v lo w' → K' v lo w') : ValB P f args w F K' :=
  fun w1 hs => (h w1 hs).mono fun _ _ ⟨v, w', he, ho, hK⟩ => ⟨v, w', he, ho, hk v _ w' ho.umod hs.size (Nat.le_refl _) hK⟩

/-- What a call leaves, in a world that shows more. -/
theorem Out.widen {F : Nat → Prop} {w u w1 w' wr : World} (hs : Sees w u) (hs1 : Sees u w1) (ho : Out F w w1 w' wr) : ∃ u', Out F u w1 u' wr ∧ Sees w' u' := by
  classical
  obtain ⟨g, hg⟩ : ∃ g : Nat → Obj, g = fun i => if i < u.heap.size ∧ ¬ F i then (u.heap[i]?).getD masked else if u.heap.size ≤ i ∧ i < w1.heap.size then masked else (wr.heap[i]?).getD masked := ⟨_, rfl⟩
  have hsz : u.heap.size ≤ wr.heap.size := Nat.le_trans hs1.size ho.mod.size
  have hget : ∀ i, i < wr.heap.size → (Array.ofFn (n := wr.heap.size) fun i => g i.1)[i]? = some (g i) := fun i hi => by simp [hi]
  have hold : ∀ i, i < u.heap.size → ¬ F i → (Array.ofFn (n := wr.heap.size) fun i => g i.1)[i]? = u.heap[i]? := fun i hi hF => by
    rw [hget i (by omega), hg]
    simp only [hi, hF, not_false_eq_true, and_self, if_true]
    rw [Array.getElem?_eq_getElem hi]; rfl
  have hmid : ∀ i, u.heap.size ≤ i → i < w1.heap.size → (Array.ofFn (n := wr.heap.size) fun i => g i.1)[i]? = some masked := fun i h1 h2 => by
    rw [hget i (Nat.lt_of_lt_of_le h2 ho.mod.size), hg]
    simp only [Nat.not_lt.2 h1, false_and, if_false, h1, h2, and_self, if_true]
  have hnew : ∀ i, i < wr.heap.size → (i < u.heap.size → F i) → (u.heap.size ≤ i → w1.heap.size ≤ i) → (Array.ofFn (n := wr.heap.size) fun i => g i.1)[i]? = wr.heap[i]? := fun i hi h1 h2 => by
    rw [hget i hi, hg]
    have e1 : ¬ (i < u.heap.size ∧ ¬ F i) := fun hh => hh.2 (h1 hh.1)
    have e2 : ¬ (u.heap.size ≤ i ∧ i < w1.heap.size) := fun hh => absurd (h2 hh.1) (by omega)
    simp only [e1, e2, if_false]
    rw [Array.getElem?_eq_getElem hi]; rfl
  have hn : (Array.ofFn (n := wr.heap.size) fun i => g i.1).size = wr.heap.size := by simp
  refine ⟨{ wr with heap := Array.ofFn (n := wr.heap.size) fun i => g i.1 }, ⟨ho.mod, ⟨rfl, rfl, rfl, by simp, fun b hb => ?_⟩, ⟨?_, ?_, ?_, by simpa using hsz, fun b hb hF => hold b hb hF⟩, fun b h1 h2 _ => hmid b h1 h2⟩, ⟨?_, ?_, ?_, ?_, fun b hb => ?_⟩⟩
  · have hb' : b < wr.heap.size := by simpa using hb
    show (Array.ofFn (n := wr.heap.size) fun i => g i.1)[b]? = _ ∨ (Array.ofFn (n := wr.heap.size) fun i => g i.1)[b]? = _
    by_cases h1 : b < u.heap.size
    · by_cases hF : F b
      · exact .inl (hnew b hb' (fun _ => hF) (fun h => by omega))
      · rw [hold b h1 hF]
        rcases hs1.block b h1 with e | e
        · left; rw [e, ho.mod.keep b (Nat.lt_of_lt_of_le h1 hs1.size) hF]
        · exact .inr e
    · by_cases h2 : b < w1.heap.size
      · exact .inr (hmid b (by omega) h2)
      · exact .inl (hnew b hb' (fun h => absurd h h1) (fun _ => by omega))
  · exact ho.mod.os.trans hs1.os
  · exact ho.mod.tape.trans hs1.tape
  · exact ho.mod.output.trans hs1.output
  · exact ho.sees.os
  · exact ho.sees.tape
  · exact ho.sees.output
  · have := ho.sees.size; simpa using this
  · have hb' : b < wr.heap.size := Nat.lt_of_lt_of_le hb ho.sees.size
    show _ = (Array.ofFn (n := wr.heap.size) fun i => g i.1)[b]? ∨ _
    by_cases h1 : b < u.heap.size
    · by_cases hF : F b
      · rw [hnew b hb' (fun _ => hF) (fun h => by omega)]; exact ho.sees.block b hb
      · rw [hold b h1 hF]
        by_cases hw : b < w.heap.size
        · rw [ho.umod.keep b hw hF]; exact hs.block b hw
        · exact .inr (ho.hid b (by omega) (Nat.lt_of_lt_of_le h1 hs1.size) hb)
    · by_cases h2 : b < w1.heap.size
      · exact .inr (ho.hid b (by have := hs.size; omega) h2 hb)
      · rw [hnew b hb' (fun h => absurd h h1) (fun _ => by omega)]; exact ho.sees.block b hb

/-- The same in a world that shows more. -/
theorem ValB.widen {P : Program} {f : Value} {args : List Value} {w u : World} {F : Nat → Prop} {K : Value → Nat → World → Prop} (h : ValB P f args w F K) (hs : Sees w u) : ValB P f args u F fun v lo u' => ∃ w', Sees w' u' ∧ K v lo w' := by
  intro w1 hs1
  refine (h w1 (hs.trans hs1)).mono ?_
  rintro e wr ⟨v, w', rfl, ho, hK⟩
  obtain ⟨u', ho', hs'⟩ := ho.widen hs hs1
  exact ⟨v, u', rfl, ho', w', hs', hK⟩

/-- A contract in a world that shows less than the one at hand. -/
theorem CallF.wide {P : Program} {f : FuncId} {args : Array Value} {u : UW} {w : World} {F : Nat → Prop} {R : Value → Nat → World → Prop} {K : Value → UW → Prop} (h : FnB P f args w F R) (hs : Sees w u.toWorld) (hF : ∀ b, F b → u.pub b)
    (hk : ∀ v lo u' w', Mod F u.toWorld u' → u.heap.size ≤ lo → Sees w' u' → Mod F w w' → (∀ b, w.heap.size ≤ b → b < lo → b < w'.heap.size → w'.heap[b]? = some masked) → R v lo w' → K v (u.ret lo u')) : CallF P f args u K := by
  refine ⟨F, hF, fun w1 hs1 => (h w1 (hs.trans hs1)).mono ?_⟩
  rintro e wr ⟨v, w', rfl, ho, hK⟩
  obtain ⟨u', ho', hs'⟩ := ho.widen hs hs1
  exact ⟨v, u', rfl, ho', hk v _ u' w' ho'.umod hs1.size hs' ho.umod ho.hid hK⟩

theorem CallF.wideA {P : Program} {f : FuncId} {args : Array Value} {u : UW} {w : World} {R : Value → World → Prop} {K : Value → UW → Prop} (h : FnA P f args w R) (hs : Sees w u.toWorld)
    (hk : ∀ v lo u' w', Below u.heap.size u.toWorld u' → u.heap.size ≤ lo → Sees w' u' → R v w' → K v (u.ret lo u')) : CallF P f args u K :=
  CallF.wide h hs (fun _ h => h.elim) fun v lo u' w' hm hl hs' _ _ hR => hk v lo u' w' hm.below hl hs' hR

/-- What H shows, H' shows too. -/
def Agr (H H' : Heap) : Prop := ∀ b, b < H.size → H[b]? = H'[b]? ∨ H[b]? = some masked

theorem Sees.agr {w u : World} (h : Sees w u) : Agr w.heap u.heap := h.block

theorem Agr.rd {H H' : Heap} (h : Agr H H') {b o n : Nat} {vs : List Value} (hr : Eng.rd H b o n = some vs) (hn : n ≠ 0) : Eng.rd H' b o n = some vs := by
  obtain ⟨c, T, f, h1, h2, _⟩ := rd_block hr
  refine rd_same hr ?_
  rcases h b (rd_lt hr) with e | e
  · exact e.symm
  · rw [h1] at e
    simp only [Option.some.injEq, Obj.cells.injEq] at e
    rw [e.1] at h2; simp at h2; omega

theorem SlR.agr {H H' : Heap} {a : Option Addr} {n c sz : Nat} {css : List (List Value)} (h : SlR H a n c sz css) (hs : Agr H H') (hz : sz ≠ 0) : SlR H' a n c sz css :=
  ⟨h.len, h.cap, h.each, fun hn => let ⟨b, o, e, hr⟩ := h.read hn; ⟨b, o, e, hs.rd hr (Nat.mul_ne_zero hn hz)⟩⟩

theorem SlC.agr {H H' : Heap} {a : Option Addr} {n c sz : Nat} {css : List (List Value)} (h : SlC H a n c sz css) (hs : Agr H H') (hz : sz ≠ 0) : SlC H' a n c sz css := ⟨h.toSlR.agr hs hz, h.spot⟩

theorem Sees.rd {w u : World} (h : Sees w u) {b o n : Nat} {vs : List Value} (hr : Eng.rd w.heap b o n = some vs) (hn : n ≠ 0) : Eng.rd u.heap b o n = some vs := h.agr.rd hr hn
theorem SlR.sees {w u : World} {a : Option Addr} {n c sz : Nat} {css : List (List Value)} (h : SlR w.heap a n c sz css) (hs : Sees w u) (hz : sz ≠ 0) : SlR u.heap a n c sz css := h.agr hs.agr hz
theorem SlC.sees {w u : World} {a : Option Addr} {n c sz : Nat} {css : List (List Value)} (h : SlC w.heap a n c sz css) (hs : Sees w u) (hz : sz ≠ 0) : SlC u.heap a n c sz css := h.agr hs.agr hz

/-- The blocks that a heap shows. -/
def Vis (H : Heap) (b : Nat) : Prop := b < H.size ∧ H[b]? ≠ some masked

theorem Agr.vis {H H' : Heap} (h : ∀ b, Vis H b → H'[b]? = H[b]?) : Agr H H' := by
  classical
  intro b hb
  by_cases e : H[b]? = some masked
  · exact .inr e
  · exact .inl (h b ⟨hb, e⟩).symm

/-- Where what is read can lie. -/
theorem rd_where {w w' : World} {lo b o n : Nat} {vs : List Value} (hh : ∀ b, w.heap.size ≤ b → b < lo → b < w'.heap.size → w'.heap[b]? = some masked) (hr : Eng.rd w'.heap b o n = some vs) (hn : n ≠ 0) : b < w.heap.size ∨ lo ≤ b := by
  by_cases h1 : b < w.heap.size
  · exact .inl h1
  · by_cases h2 : b < lo
    · obtain ⟨c, T, f, h3, h4, _⟩ := rd_block hr
      rw [hh b (by omega) h2 (rd_lt hr)] at h3
      simp only [Option.some.injEq, Obj.cells.injEq] at h3
      rw [← h3.1] at h4; simp at h4; omega
    · exact .inr (by omega)

/-- A function hands back a world that shows less. -/
theorem FnB.mask {P : Program} {f : FuncId} {args : Array Value} {w : World} {F : Nat → Prop} {K K' : Value → Nat → World → Prop} (h : FnB P f args w F K)
    (hk : ∀ v lo w', Mod F w w' → w.heap.size ≤ lo → K v lo w' → ∃ w'', Sees w'' w' ∧ Mod F w w'' ∧ K' v lo w'') : FnB P f args w F K' := by
  intro w1 hs
  refine (h w1 hs).mono fun e wr hp => ?_
  obtain ⟨v, w', rfl, ho, hK⟩ := hp
  obtain ⟨w'', h1, h2, h3⟩ := hk v _ w' ho.umod hs.size hK
  refine ⟨v, w'', rfl, ⟨ho.mod, h1.trans ho.sees, h2, fun b hb1 hb2 hb3 => ?_⟩, h3⟩
  rcases h1.block b hb3 with e | e
  · rw [e]; exact ho.hid b hb1 hb2 (Nat.lt_of_lt_of_le hb3 h1.size)
  · exact e

/-- All that may be written is there. -/
def Wf (u : UW) : Prop := ∀ b, u.pub b → b < u.heap.size

theorem Wf.ret {u : UW} {lo : Nat} {w' : World} (h : Wf u) (hs : u.heap.size ≤ w'.heap.size) : Wf (u.ret lo w') := fun b hb => hb.elim (fun hb => Nat.lt_of_lt_of_le (h b hb) hs) (fun hb => hb.2)
theorem Wf.born {u : UW} {b : Nat} {w' : World} {o : Obj} (h : Wf u) (hb : Born u.toWorld w' b o) : Wf (u.born b w') := fun c hc => hc.elim (fun hc => Nat.lt_of_lt_of_le (h c hc) hb.below.size) (fun e => by subst e; exact (Array.getElem?_eq_some_iff.1 hb.at_).1)
theorem Wf.sto {u : UW} {b : Nat} {w' : World} {o : Obj} (h : Wf u) (hb : Sto u.toWorld w' b o) : Wf (u.sto w') := fun c hc => Nat.lt_of_lt_of_le (h c hc) hb.size

theorem CallV.mono {P : Program} {f : Value} {args : List Value} {u : UW} {K K' : Value → UW → Prop} (h : CallV P f args u K)
    (hk : ∀ v lo w', Mod u.pub u.toWorld w' → u.heap.size ≤ lo → K v (u.ret lo w') → K' v (u.ret lo w')) : CallV P f args u K' := by
  obtain ⟨F, hF, h⟩ := CallV_iff.1 h
  exact CallV_iff.2 ⟨F, hF, h.mono fun v lo w' hm hl _ hK => hk v lo w' ⟨hm.os, hm.tape, hm.output, hm.size, fun b hb hn => hm.keep b hb fun hf => hn (hF b hf)⟩ hl hK⟩

theorem CallV.fn {P : Program} {g : FuncId} {first captured : Array Value} {args : List Value} {u : UW} {K : Value → UW → Prop} (hc : callable P g = true) (h : CallF P g (first.toList ++ args ++ captured.toList).toArray u K) : CallV P (.func (.func g) first captured) args u K := by
  show (bif callable P g then CallF P g (first.toList ++ args ++ captured.toList).toArray u K else False)
  rw [hc]; exact h

/-- A client's world, and that of a function that calls it. -/
structure Rel (c u : UW) : Prop where
  sees : Sees c.toWorld u.toWorld
  pub : ∀ b, c.pub b → u.pub b
  wf : Wf c

theorem CallV.widen {P : Program} {f : Value} {args : List Value} {c u : UW} {K : Value → UW → Prop} (h : CallV P f args c K) (hr : Rel c u) :
    CallV P f args u fun v u' => ∃ c', Rel c' u' ∧ K v c' ∧ Mod c.pub c.toWorld c'.toWorld ∧ Mod c.pub u.toWorld u'.toWorld ∧ (∀ b, c'.pub b → c.pub b ∨ u.heap.size ≤ b) ∧ ∃ lo, u.heap.size ≤ lo ∧ u' = u.ret lo u'.toWorld := by
  obtain ⟨F, hF, h⟩ := CallV_iff.1 h
  have toPub : ∀ {a b : World}, Mod F a b → Mod c.pub a b := fun hm => ⟨hm.os, hm.tape, hm.output, hm.size, fun b hb hn => hm.keep b hb fun hf => hn (hF b hf)⟩
  have h2 : ValB P f args c.toWorld F fun v lo w' => K v (c.ret lo w') ∧ Mod c.pub c.toWorld w' := h.mono fun v lo w' hm _ _ hK => ⟨hK, toPub hm⟩
  refine CallV_iff.2 ⟨F, fun b hb => hr.pub b (hF b hb), (h2.widen hr.sees).mono ?_⟩
  rintro v lo u' hm hl _ ⟨w', hs, hK, hmc⟩
  refine ⟨c.ret lo w', ⟨hs, fun b hb => ?_, hr.wf.ret hmc.size⟩, hK, hmc, toPub hm, fun b hb => hb.imp id (fun h => by omega), lo, hl, rfl⟩
  exact hb.imp (hr.pub b) fun h => ⟨h.1, Nat.lt_of_lt_of_le h.2 hs.size⟩

/-- A client's world that has grown by what it is handed. -/
structure Grow (c c1 : UW) : Prop where
  below : Below c.heap.size c.toWorld c1.toWorld
  pub : ∀ b, c.pub b → c1.pub b
  new : ∀ b, c1.pub b → c.pub b ∨ c.heap.size ≤ b
  wf : Wf c1

theorem Grow.refl {c : UW} (h : Wf c) : Grow c c := ⟨Below.refl _ _, fun _ h => h, fun _ h => .inl h, h⟩

/-- New blocks are handed over to a client. -/
theorem Rel.hand {c u : UW} (hr : Rel c u) (hw : Wf u) (Hs : Nat → Prop) (hH : ∀ b, Hs b → c.heap.size ≤ b ∧ u.pub b) :
    ∃ c1, Grow c c1 ∧ Rel c1 u ∧ (∀ b, Hs b → c1.heap[b]? = u.heap[b]? ∧ c1.pub b) ∧ ∀ b, c1.pub b → c.pub b ∨ Hs b := by
  classical
  obtain ⟨g, hg⟩ : ∃ g : Nat → Obj, g = fun i => if i < c.heap.size then (c.heap[i]?).getD masked else if Hs i then (u.heap[i]?).getD masked else masked := ⟨_, rfl⟩
  have hsz := hr.sees.size
  have hget : ∀ i, i < u.heap.size → (Array.ofFn (n := u.heap.size) fun i => g i.1)[i]? = some (g i) := fun i hi => by simp [hi]
  have hold : ∀ i, i < c.heap.size → (Array.ofFn (n := u.heap.size) fun i => g i.1)[i]? = c.heap[i]? := fun i hi => by
    rw [hget i (by omega), hg]; simp only [hi, if_true]; rw [Array.getElem?_eq_getElem hi]; rfl
  have hnew : ∀ i, Hs i → (Array.ofFn (n := u.heap.size) fun i => g i.1)[i]? = u.heap[i]? := fun i hi => by
    have h1 := (hH i hi).1
    have h2 := hw i (hH i hi).2
    rw [hget i h2, hg]; simp only [Nat.not_lt.2 h1, if_false, hi, if_true]; rw [Array.getElem?_eq_getElem h2]; rfl
  have hs1 : (Array.ofFn (n := u.heap.size) fun i => g i.1).size = u.heap.size := by simp
  have wf1 : Wf ⟨{ c.toWorld with heap := Array.ofFn (n := u.heap.size) fun i => g i.1 }, fun b => c.pub b ∨ Hs b⟩ := by
    intro b hb
    show b < (Array.ofFn (n := u.heap.size) fun i => g i.1).size
    rw [hs1]
    exact hb.elim (fun h => Nat.lt_of_lt_of_le (hr.wf b h) hsz) fun h => hw b (hH b h).2
  refine ⟨⟨{ c.toWorld with heap := Array.ofFn (n := u.heap.size) fun i => g i.1 }, fun b => c.pub b ∨ Hs b⟩, ⟨⟨rfl, rfl, rfl, ?_, hold⟩, fun b h => .inl h, fun b h => h.imp id fun h => (hH b h).1, wf1⟩, ⟨⟨hr.sees.os, hr.sees.tape, hr.sees.output, ?_, fun b hb => ?_⟩, fun b h => h.elim (hr.pub b) fun h => (hH b h).2, wf1⟩, fun b hb => ⟨hnew b hb, .inr hb⟩, fun b hb => hb⟩
  · show _ ≤ (Array.ofFn (n := u.heap.size) fun i => g i.1).size
    rw [hs1]; exact hsz
  · show (Array.ofFn (n := u.heap.size) fun i => g i.1).size ≤ _
    rw [hs1]; exact Nat.le_refl _
  · show (Array.ofFn (n := u.heap.size) fun i => g i.1)[b]? = _ ∨ (Array.ofFn (n := u.heap.size) fun i => g i.1)[b]? = _
    have hb' : b < u.heap.size := by rw [← hs1]; exact hb
    by_cases h1 : b < c.heap.size
    · rw [hold b h1]; exact hr.sees.block b h1
    · by_cases h2 : Hs b
      · exact .inl (hnew b h2)
      · right
        rw [hget b hb', hg]; simp only [h1, h2, if_false]

/-- Where a client stands that began at cl. -/
structure Cli (cl c : UW) : Prop where
  mod : Mod cl.pub cl.toWorld c.toWorld
  new : ∀ b, c.pub b → cl.pub b ∨ cl.heap.size ≤ b

theorem Cli.refl (cl : UW) : Cli cl cl := ⟨Mod.refl _ _, fun _ h => .inl h⟩

theorem Cli.grow {cl c c1 : UW} (h : Cli cl c) (hg : Grow c c1) : Cli cl c1 :=
  ⟨⟨hg.below.os.trans h.mod.os, hg.below.tape.trans h.mod.tape, hg.below.output.trans h.mod.output, Nat.le_trans h.mod.size hg.below.size, fun b hb hn => (hg.below.block b (Nat.lt_of_lt_of_le hb h.mod.size)).trans (h.mod.keep b hb hn)⟩,
    fun b hb => (hg.new b hb).elim (h.new b) fun hh => .inr (Nat.le_trans h.mod.size hh)⟩

theorem Cli.call {cl c c1 : UW} {N : Nat} (h : Cli cl c) (hm : Mod c.pub c.toWorld c1.toWorld) (hN : c.heap.size ≤ N) (hn : ∀ b, c1.pub b → c.pub b ∨ N ≤ b) : Cli cl c1 :=
  ⟨⟨hm.os.trans h.mod.os, hm.tape.trans h.mod.tape, hm.output.trans h.mod.output, Nat.le_trans h.mod.size hm.size, fun b hb hnp => (hm.keep b (Nat.lt_of_lt_of_le hb h.mod.size) fun hp => (h.new b hp).elim hnp fun hh => by omega).trans (h.mod.keep b hb hnp)⟩,
    fun b hb => (hn b hb).elim (h.new b) fun hh => .inr (by have := h.mod.size; omega)⟩

theorem Below.sees {w w' : World} (h : Below w.heap.size w w') : Sees w w' := ⟨h.os, h.tape, h.output, h.size, fun b hb => .inl (h.block b hb).symm⟩

theorem Rel.below {c u u' : UW} (h : Rel c u) (hb : Below u.heap.size u.toWorld u'.toWorld) (hp : ∀ b, u.pub b → u'.pub b) : Rel c u' := ⟨h.sees.trans (Below.sees hb), fun b hb => hp b (h.pub b hb), h.wf⟩

/-- Function fv calls whatever it is handed with things as As tells, one behind the other, as long as it is told to go on. What it looks at lies in X, as it lay in H. -/
def IsSeq (P : Program) (fv : Value) (As : List (List Value → Nat → UW → Prop)) (X : Nat → Prop) (H : Heap) : Prop :=
  (∃ g a b, fv = .func (.func g) a b) ∧ ∀ (yv : Value) (c : UW) (I : Nat → UW → Prop) (S : UW → Prop), (∃ f a b, yv = .func f a b) → Wf c → (∀ b, X b → c.heap[b]? = H[b]? ∧ ¬ c.pub b) → I 0 c →
    (∀ (k : Nat) (hk : k < As.length) (c c1 : UW) (vs : List Value), I k c → Grow c c1 → (As[k]'hk) vs c.heap.size c1 → CallV P yv vs c1 fun v c' => (v = .bool true ∧ I (k + 1) c') ∨ (v = .bool false ∧ S c')) →
    CallV P fv [yv] c fun _ u' => ∃ c', u'.toWorld = c'.toWorld ∧ (∀ b, c'.pub b → u'.pub b) ∧ (I As.length c' ∨ S c')

/-- The world of a loop's rounds, from one to the next. -/
structure GrowB (P0 : Nat → Prop) (N : Nat) (u u1 : UW) : Prop where
  below : Below u.heap.size u.toWorld u1.toWorld
  pub : ∀ b, u.pub b → u1.pub b
  new : ∀ b, u1.pub b → P0 b ∨ N ≤ b
  wf : Wf u1

/-- What is handed over speaks of cells. -/
def Stb (A : List Value → Nat → UW → Prop) : Prop := ∀ vs lo u l o, A vs lo u → u.heap[l]? = some o → isLoop o = true → A vs lo ⟨u.toWorld.putObj l masked, fun b => u.pub b ∧ b ≠ l⟩

theorem putObj_back {w : World} {l : Nat} {o : Obj} (h : w.heap[l]? = some masked) : (w.putObj l o).putObj l masked = w := by
  obtain ⟨hl, he⟩ := Array.getElem?_eq_some_iff.1 h
  unfold World.putObj
  simp only [Array.setIfInBounds_setIfInBounds]
  have : w.heap.setIfInBounds l masked = w.heap := by
    refine Array.ext (by simp) fun i h1 h2 => ?_
    rw [Array.getElem_setIfInBounds]
    split
    · rename_i e; subst e; exact he.symm
    · rfl
  rw [this]

theorem CallV.more {P : Program} {f : Value} {args : List Value} {w : World} {p1 p2 : Nat → Prop} {K K' : Value → UW → Prop} (h : CallV P f args ⟨w, p1⟩ K) (hp : ∀ b, p1 b → p2 b)
    (hk : ∀ v lo w', Mod p1 w w' → w.heap.size ≤ lo → K v (UW.ret ⟨w, p1⟩ lo w') → K' v (UW.ret ⟨w, p2⟩ lo w')) : CallV P f args ⟨w, p2⟩ K' := by
  obtain ⟨F, hF, h⟩ := CallV_iff.1 h
  exact CallV_iff.2 ⟨F, fun b hb => hp b (hF b hb), h.mono fun v lo w' hm hl _ hK => hk v lo w' ⟨hm.os, hm.tape, hm.output, hm.size, fun b hb hn => hm.keep b hb fun hf => hn (hF b hf)⟩ hl hK⟩

/-- A loop over a sequence; its rounds write blocks of P0, and new ones. -/
theorem RangeF.seq {P : Program} {fv : Value} {body : List Value → (Option Code → UW → Prop) → UW → Prop} {K : Option Code → UW → Prop} {u : UW} {As : List (List Value → Nat → UW → Prop)} {X : Nat → Prop} {H : Heap} (P0 : Nat → Prop) (hP0 : ∀ b, P0 b → u.pub b)
    (hseq : IsSeq P fv As X H) (hX : ∀ b, X b → b < u.heap.size ∧ u.heap[b]? = H[b]? ∧ ¬ P0 b) (hst : ∀ A ∈ As, Stb A) (hwf : Wf u)
    (I : Nat → UW → Prop) (S : Code → UW → Prop) (hIw : ∀ k u, I k u → Wf u) (hSw : ∀ c u, S c u → Wf u)
    (h0 : ∀ u1, GrowB P0 u.heap.size ⟨u.toWorld, P0⟩ u1 → I 0 u1)
    (hstep : ∀ (k : Nat) (hk : k < As.length) (u0 u1 : UW) (vs : List Value) (RR : Option Code → UW → Prop), I k u0 → GrowB P0 u.heap.size u0 u1 → (As[k]'hk) vs u0.heap.size u1 → (∀ u2, I (k + 1) u2 → RR none u2) → (∀ c u2, S c u2 → RR (some c) u2) → body vs RR u1)
    (hend : ∀ u0 u1, I As.length u0 → GrowB u.pub u.heap.size u0 u1 → (∀ b, u.pub b → u1.pub b) → K none u1) (hS : ∀ c u0 u1, S c u0 → GrowB u.pub u.heap.size u0 u1 → (∀ b, u.pub b → u1.pub b) → K (some c) u1) : RangeF P fv body K u := by
  refine ⟨hseq.1, fun l rec w' hrec hborn hy => ?_⟩
  have hll : l < w'.heap.size := (Array.getElem?_eq_some_iff.1 hborn.at_).1
  -- the client's invariant, the record shown
  obtain ⟨I2, hI2⟩ : ∃ I2 : (UW → Prop) → Option Code → UW → Prop, I2 = fun J p c => Wf c ∧ c.heap[l]? = some (rec p) ∧ c.pub l ∧ (∀ b, c.pub b → P0 b ∨ u.heap.size ≤ b) ∧ ∃ u0 : UW, u0.toWorld = c.toWorld.putObj l masked ∧ (∀ b, u0.pub b → c.pub b ∧ b ≠ l) ∧ J u0 := ⟨_, rfl⟩
  have hgrow : ∀ (Q : Nat → Prop) (c c1 u0 : UW) (p : Option Code), c.heap[l]? = some (rec p) → Wf c1 → Below c.heap.size c.toWorld c1.toWorld → (∀ b, c.pub b → c1.pub b) → (∀ b, c1.pub b → Q b ∨ u.heap.size ≤ b) → u0.toWorld = c.toWorld.putObj l masked → (∀ b, u0.pub b → c.pub b ∧ b ≠ l) →
      GrowB Q u.heap.size u0 ⟨c1.toWorld.putObj l masked, fun b => c1.pub b ∧ b ≠ l⟩ := by
    intro Q c c1 u0 p hl hw hb hp hn e1 e2
    have hlc : l < c.heap.size := (Array.getElem?_eq_some_iff.1 hl).1
    have hs : u0.heap.size = c.heap.size := by show u0.toWorld.heap.size = _; rw [e1]; simp
    refine ⟨⟨?_, ?_, ?_, ?_, fun k hk => ?_⟩, fun b hb => ⟨hp b (e2 b hb).1, (e2 b hb).2⟩, fun b hb => hn b hb.1, fun b hb => by simpa using hw b hb.1⟩
    · rw [e1]; exact hb.os
    · rw [e1]; exact hb.tape
    · rw [e1]; exact hb.output
    · rw [hs]; simpa using hb.size
    · rw [e1]
      by_cases e : k = l
      · subst e
        rw [World.putObj_heap_same hlc, World.putObj_heap_same (Nat.lt_of_lt_of_le hlc hb.size)]
      · rw [putObj_get e, putObj_get e]; exact hb.block k (by omega)
  have hb0 : Below u.heap.size u.toWorld (w'.putObj l masked) := by
    refine ⟨hborn.below.os, hborn.below.tape, hborn.below.output, by simpa using hborn.below.size, fun k hk => ?_⟩
    rw [putObj_get (by have := hborn.ge; omega)]; exact hborn.below.block k hk
  have hwb : Wf (u.born l w') := hwf.born hborn
  have hwc : Wf ⟨w', fun b => P0 b ∨ b = l⟩ := fun b hb => hwb b (hb.imp (hP0 b) id)
  have hnb : ∀ b, (P0 b ∨ b = l) → P0 b ∨ u.heap.size ≤ b := fun b hb => hb.imp id (fun e => by subst e; exact hborn.ge)
  have start : I2 (I 0) none ⟨w', fun b => P0 b ∨ b = l⟩ := by
    rw [hI2]
    refine ⟨hwc, hborn.at_, .inr rfl, hnb, ⟨w'.putObj l masked, fun b => (P0 b ∨ b = l) ∧ b ≠ l⟩, rfl, fun b hb => hb, h0 _ ⟨hb0, fun b hb => ⟨.inl hb, ?_⟩, fun b hb => hnb b hb.1, fun b hb => ?_⟩⟩
    · intro e; have := hwf b (hP0 b hb); have := hborn.ge; omega
    · show b < (w'.putObj l masked).heap.size
      rw [World.putObj_size]; exact hwc b hb.1
  refine CallV.more (p1 := fun b => P0 b ∨ b = l) (hseq.2 (.func (.yield l) #[] #[]) ⟨w', fun b => P0 b ∨ b = l⟩ (fun k => I2 (I k) none) (fun c => ∃ p, I2 (S p) (some p) c) ⟨_, _, _, rfl⟩ hwc (fun b hb => ?_) start ?_) (fun b hb => hb.imp (hP0 b) id) ?_
  · obtain ⟨h1, h2, h3⟩ := hX b hb
    exact ⟨(hborn.below.block b h1).trans h2, fun hp => hp.elim h3 fun e => by have := hborn.ge; omega⟩
  · intro k hk c c1 vs hIk hg hA
    rw [hI2] at hIk
    obtain ⟨_, hl, hpl, hnc, u0, e1, e2, hJ⟩ := hIk
    have hl1 : c1.heap[l]? = some (rec none) := by rw [hg.below.block l (Array.getElem?_eq_some_iff.1 hl).1]; exact hl
    have hn1 : ∀ b, c1.pub b → P0 b ∨ u.heap.size ≤ b := fun b hb => (hg.new b hb).elim (hnc b) fun h => by
      have h1 : u.heap.size ≤ l := hborn.ge
      have h2 : l < c.heap.size := (Array.getElem?_eq_some_iff.1 hl).1
      exact .inr (by omega)
    have hgb := hgrow P0 c c1 u0 none hl hg.wf hg.below hg.pub hn1 e1 e2
    have hs0 : c.heap.size = u0.heap.size := by show _ = u0.toWorld.heap.size; rw [e1]; simp
    rw [hs0] at hA
    have hbody := hstep k hk u0 _ vs (fun p u2 => match p with | none => I (k + 1) u2 | some cd => S cd u2) hJ hgb (hst _ (List.getElem_mem hk) vs _ c1 l _ hA hl1 (hrec none)) (fun _ h => h) (fun _ _ h => h)
    have hv := hy vs c1.toWorld (fun b => c1.pub b ∧ b ≠ l) _ hl1 (fun b hb => ⟨hg.wf b hb.1, hb.2⟩) hbody
    refine CallV_iff.2 ⟨_, fun b hb => hb.elim (fun h => h.1) (fun e => by subst e; exact hg.pub _ hpl), hv.mono ?_⟩
    rintro v lo w2 hm hlo _ ⟨p, pub, w3, rfl, rfl, hmask, hpub, hR⟩
    have hl3 : l < w3.heap.size := (Array.getElem?_eq_some_iff.1 hmask).1
    have hsz : c1.heap.size ≤ w3.heap.size := by simpa using hm.size
    have hc1 : u.heap.size ≤ c1.heap.size := by
      have h1 : u.heap.size ≤ l := hborn.ge
      have h2 : l < c1.heap.size := (Array.getElem?_eq_some_iff.1 hl1).1
      omega
    have mk : ∀ (J : UW → Prop), J ⟨w3, pub⟩ → Wf ⟨w3, pub⟩ → I2 J p (c1.ret lo (w3.putObj l (rec p))) := by
      intro J hJ3 hw3
      rw [hI2]
      refine ⟨hg.wf.ret (by simpa using hsz), World.putObj_heap_same hl3, .inl (hg.pub _ hpl), fun b hb => hb.elim (hn1 b) (fun h => .inr (by omega)), ⟨w3, pub⟩, (putObj_back hmask).symm, fun b hb => ?_, hJ3⟩
      have hlc1 : l < c1.heap.size := (Array.getElem?_eq_some_iff.1 hl1).1
      rcases hpub b hb with h | h
      · exact ⟨.inl h.1, h.2⟩
      · exact ⟨.inr ⟨h, by simpa using hw3 b hb⟩, by omega⟩
    cases p with
    | none => exact .inl ⟨rfl, mk _ hR (hIw _ _ hR)⟩
    | some cd => exact .inr ⟨rfl, cd, mk _ hR (hSw _ _ hR)⟩
  · rintro v lo w2 hm hlo ⟨c', e1, e2, hor⟩
    have hwu : Wf ((u.born l w').ret lo w2) := hwb.ret hm.size
    have hub : u.heap.size ≤ w'.heap.size := hborn.below.size
    have hnu : ∀ b, ((u.born l w').ret lo w2).pub b → u.pub b ∨ u.heap.size ≤ b := fun b hb => hb.elim (fun h => h.imp id fun e => by subst e; exact hborn.ge) fun h => .inr (by omega)
    have e2' : ∀ b, c'.pub b → ((u.born l w').ret lo w2).pub b := fun b hb => (e2 b hb).imp (fun h => h.imp (hP0 b) id) id
    have fin : ∀ p (J : UW → Prop), I2 J p c' → (∀ u0 u1, J u0 → GrowB u.pub u.heap.size u0 u1 → (∀ b, u.pub b → u1.pub b) → K p u1) → ∃ p, ((u.born l w').ret lo w2).heap[l]? = some (rec p) ∧ K p ⟨((u.born l w').ret lo w2).toWorld.putObj l masked, fun b => ((u.born l w').ret lo w2).pub b ∧ b ≠ l⟩ := by
      intro p J hJ hK
      rw [hI2] at hJ
      obtain ⟨_, hl, _, _, u0, e3, e4, hJ⟩ := hJ
      have e1 : w2 = c'.toWorld := e1
      refine ⟨p, ?_, hK u0 _ hJ (hgrow u.pub c' ((u.born l w').ret lo w2) u0 p hl hwu ?_ e2' hnu e3 e4) fun b hb => ⟨.inl (.inl hb), ?_⟩⟩
      · show w2.heap[l]? = _
        rw [e1]; exact hl
      · show Below _ _ w2
        rw [e1]; exact Below.refl _ _
      · intro e; have := hwf b hb; have := hborn.ge; omega
    rcases hor with h | ⟨cd, h⟩
    · exact fin none _ h hend
    · exact fin (some cd) _ h (hS cd)

end Go.Eng
