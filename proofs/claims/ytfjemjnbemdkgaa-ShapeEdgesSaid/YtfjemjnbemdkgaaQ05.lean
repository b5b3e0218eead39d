import Derived.Test.YtfjemjnbemdkgaaQ04
/-
  The engine, for its users: function values that are called; sequences; loops over functions.
-/
namespace Go.Eng
open Go.RowKit

theorem Sees.trans {a b c : World} (h : Sees a b) (k : Sees b c) : Sees a c :=
  ⟨k.os.trans h.os, k.tape.trans h.tape, k.output.trans h.output, Nat.le_trans h.size k.size, fun i hi => by
    rcases h.block i hi with e | e
    · rcases k.block i (Nat.lt_of_lt_of_le hi h.size) with e' | e'
      · exact .inl (e.trans e')
      · exact .inr (e.trans e')
    · exact .inr e⟩

theorem VCalls.mono {P : Program} {f : Value} {args : List Value} {w : World} {R R' : Ending → World → Prop} (h : VCalls P f args w R) (hr : ∀ e w', R e w' → R' e w') : VCalls P f args w R' := by
  unfold VCalls at *
  split at h
  · exact ⟨h.1, h.2.mono hr⟩
  · obtain ⟨h1, h2, r, h3, h4, h5⟩ := h
    exact ⟨h1, h2, r, h3, h4, h5.mono hr⟩
  · exact h

theorem ValB.mono {P : Program} {f : Value} {args : List Value} {w : World} {F : Nat → Prop} {K K' : Value → Nat → World → Prop} (h : ValB P f args w F K) (hk : ∀ v lo w', Mod F w w' → w.heap.size ≤ lo → lo ≤ lo → K v lo w' → K' v lo w') : ValB P f args w F K' :=
  fun w1 hs => (h w1 hs).mono fun _ _ ⟨v, w', he, ho, hK⟩ => ⟨v, w', he, ho, hk v _ w' ho.umod hs.size (Nat.le_refl _) hK⟩

/-- What a call leaves, in a world that shows more. -/
theorem Out.widen {F : Nat → Prop} {w u w1 w' wr : World} (hs : Sees w u) (hs1 : Sees u w1) (ho : Out F w w1 w' wr) : ∃ u', Out F u w1 u' wr ∧ Sees w' u' := by
  classical
  obtain ⟨g, hg⟩ : ∃ g : Nat → Obj, g = fun i => if i < u.heap.size ∧ ¬ F i then (u.heap[i]?).getD masked else if u.heap.size ≤ i ∧ i < w1.heap.size then masked else (wr.heap[i]?).getD masked := ⟨_, rfl⟩
  have hsz : u.heap.size ≤ wr.heap.size := Nat.le_trans hs1.size ho.mod.size
  have hget : ∀ i, i < wr.heap.size → (Array.ofFn (n := wr.heap.size) fun i => g i.1)[i]? = some (g i) := fun i hi => by simp [hi]
  have hold : ∀ i, i < u.heap.size → ¬ F i → (Array.ofFn (n := wr.heap.size) fun i => g i.1)[i]? = u.heap[i]? := fun i hi hF => by
    rw [hget i (by omega), hg]
    simp only [hi, hF, not_false_eq_true, and_self, if_true]
    rw [Array.getElem?_eq_getElem hi]; rfl
  have hmid : ∀ i, u.heap.size ≤ i → i < w1.heap.size → (Array.ofFn (n := wr.heap.size) fun i => g i.1)[i]? = some masked := fun i h1 h2 => by
    rw [hget i (Nat.lt_of_lt_of_le h2 ho.mod.size), hg]
    simp only [Nat.not_lt.2 h1, false_and, if_false, h1, h2, and_self, if_true]
  have hnew : ∀ i, i < wr.heap.size → (i < u.heap.size → F i) → (u.heap.size ≤ i → w1.heap.size ≤ i) → (Array.ofFn (n := wr.heap.size) fun i => g i.1)[i]? = wr.heap[i]? := fun i hi h1 h2 => by
    rw [hget i hi, hg]
    have e1 : ¬ (i < u.heap.size ∧ ¬ F i) := fun hh => hh.2 (h1 hh.1)
    have e2 : ¬ (u.heap.size ≤ i ∧ i < w1.heap.size) := fun hh => absurd (h2 hh.1) (by omega)
    simp only [e1, e2, if_false]
    rw [Array.getElem?_eq_getElem hi]; rfl
  have hn : (Array.ofFn (n := wr.heap.size) fun i => g i.1).size = wr.heap.size := by simp
  refine ⟨{ wr with heap := Array.ofFn (n := wr.heap.size) fun i => g i.1 }, ⟨ho.mod, ⟨rfl, rfl, rfl, by simp, fun b hb => ?_⟩, ⟨?_, ?_, ?_, by simpa using hsz, fun b hb hF => hold b hb hF⟩, fun b h1 h2 _ => hmid b h1 h2⟩, ⟨?_, ?_, ?_, ?_, fun b hb => ?_⟩⟩
  · have hb' : b < wr.heap.size := by simpa using hb
    show (Array.ofFn (n := wr.heap.size) fun i => g i.1)[b]? = _ ∨ (Array.ofFn (n := wr.heap.size) fun i => g i.1)[b]? = _
    by_cases h1 : b < u.heap.size
    · by_cases hF : F b
      · exact .inl (hnew b hb' (fun _ => hF) (fun h => by omega))
      · rw [hold b h1 hF]
        rcases hs1.block b h1 with e | e
        · left; rw [e, ho.mod.keep b (Nat.lt_of_lt_of_le h1 hs1.size) hF]
        · exact .inr e
    · by_cases h2 : b < w1.heap.size
      · exact .inr (hmid b (by omega) h2)
      · exact .inl (hnew b hb' (fun h => absurd h h1) (fun _ => by omega))
  · exact ho.mod.os.trans hs1.os
  · exact ho.mod.tape.trans hs1.tape
  · exact ho.mod.output.trans hs1.output
  · exact ho.sees.os
  · exact ho.sees.tape
  · exact ho.sees.output
  · have := ho.sees.size; simpa using this
  · have hb' : b < wr.heap.size := Nat.lt_of_lt_of_le hb ho.sees.size
    show _ = (Array.ofFn (n := wr.heap.size) fun i => g i.1)[b]? ∨ _
    by_cases h1 : b < u.heap.size
    · by_cases hF : F b
      · rw [hnew b hb' (fun _ => hF) (fun h => by omega)]; exact ho.sees.block b hb
      · rw [hold b h1 hF]
        by_cases hw : b < w.heap.size
        · rw [ho.umod.keep b hw hF]; exact hs.block b hw
        · exact .inr (ho.hid b (by omega) (Nat.lt_of_lt_of_le h1 hs1.size) hb)
    · by_cases h2 : b < w1.heap.size
      · exact .inr (ho.hid b (by have := hs.size; omega) h2 hb)
      · rw [hnew b hb' (fun h => absurd h h1) (fun _ => by omega)]; exact ho.sees.block b hb

/-- The same in a world that shows more. -/
theorem ValB.widen {P : Program} {f : Value} {args : List Value} {w u : World} {F : Nat → Prop} {K : Value → Nat → World → Prop} (h : ValB P f args w F K) (hs : Sees w u) : ValB P f args u F fun v lo u' => ∃ w', Sees w' u' ∧ K v lo w' := by
  intro w1 hs1
  refine (h w1 (hs.trans hs1)).mono ?_
  rintro e wr ⟨v, w', rfl, ho, hK⟩
  obtain ⟨u', ho', hs'⟩ := ho.widen hs hs1
  exact ⟨v, u', rfl, ho', w', hs', hK⟩

/-- A contract in a world that shows less than the one at hand. -/
theorem CallF.wide {P : Program} {f : FuncId} {args : Array Value} {u : UW} {w : World} {F : Nat → Prop} {R : Value → Nat → World → Prop} {K : Value → UW → Prop} (h : FnB P f args w F R) (hs : Sees w u.toWorld) (hF : ∀ b, F b → u.pub b)
    (hk : ∀ v lo u' w', Mod F u.toWorld u' → u.heap.size ≤ lo → Sees w' u' → Mod F w w' → (∀ b, w.heap.size ≤ b → b < lo → b < w'.heap.size → w'.heap[b]? = some masked) → R v lo w' → K v (u.ret lo u')) : CallF P f args u K := by
  refine ⟨F, hF, fun w1 hs1 => (h w1 (hs.trans hs1)).mono ?_⟩
  rintro e wr ⟨v, w', rfl, ho, hK⟩
  obtain ⟨u', ho', hs'⟩ := ho.widen hs hs1
  exact ⟨v, u', rfl, ho', hk v _ u' w' ho'.umod hs1.size hs' ho.umod ho.hid hK⟩

theorem CallF.wideA {P : Program} {f : FuncId} {args : Array Value} {u : UW} {w : World} {R : Value → World → Prop} {K : Value → UW → Prop} (h : FnA P f args w R) (hs : Sees w u.toWorld)
    (hk : ∀ v lo u' w', Below u.heap.size u.toWorld u' → u.heap.size ≤ lo → Sees w' u' → R v w' → K v (u.ret lo u')) : CallF P f args u K :=
  CallF.wide h hs (fun _ h => h.elim) fun v lo u' w' hm hl hs' _ _ hR => hk v lo u' w' hm.below hl hs' hR

/-- What H shows, H' shows too. -/
def Agr (H H' : Heap) : Prop := ∀ b, b < H.size → H[b]? = H'[b]? ∨ H[b]? = some masked

theorem Sees.agr {w u : World} (h : Sees w u) : Agr w.heap u.heap := h.block

theorem Agr.rd {H H' : Heap} (h : Agr H H') {b o n : Nat} {vs : List Value} (hr : Eng.rd H b o n = some vs) (hn : n ≠ 0) : Eng.rd H' b o n = some vs := by
  obtain ⟨c, T, f, h1, h2, _⟩ := rd_block hr
  refine rd_same hr ?_
  rcases h b (rd_lt hr) with e | e
  · exact e.symm
  · rw [h1] at e
    simp only [Option.some.injEq, Obj.cells.injEq] at e
    rw [e.1] at h2; simp at h2; omega

theorem SlR.agr {H H' : Heap} {a : Option Addr} {n c sz : Nat} {css : List (List Value)} (h : SlR H a n c sz css) (hs : Agr H H') (hz : sz ≠ 0) : SlR H' a n c sz css :=
  ⟨h.len, h.cap, h.each, fun hn => let ⟨b, o, e, hr⟩ := h.read hn; ⟨b, o, e, hs.rd hr (Nat.mul_ne_zero hn hz)⟩⟩

theorem SlC.agr {H H' : Heap} {a : Option Addr} {n c sz : Nat} {css : List (List Value)} (h : SlC H a n c sz css) (hs : Agr H H') (hz : sz ≠ 0) : SlC H' a n c sz css := ⟨h.toSlR.agr hs hz, h.spot⟩

theorem Sees.rd {w u : World} (h : Sees w u) {b o n : Nat} {vs : List Value} (hr : Eng.rd w.heap b o n = some vs) (hn : n ≠ 0) : Eng.rd u.heap b o n = some vs := h.agr.rd hr hn
theorem SlR.sees {w u : World} {a : Option Addr} {n c sz : Nat} {css : List (List Value)} (h : SlR w.heap a n c sz css) (hs : Sees w u) (hz : sz ≠ 0) : SlR u.heap a n c sz css := h.agr hs.agr hz
theorem SlC.sees {w u : World} {a : Option Addr} {n c sz : Nat} {css : List (List Value)} (h : SlC w.heap a n c sz css) (hs : Sees w u) (hz : sz ≠ 0) : SlC u.heap a n c sz css := h.agr hs.agr hz

/-- The blocks that a heap shows. -/
def Vis (H : Heap) (b : Nat) : Prop := b < H.size ∧ H[b]? ≠ some masked

theorem Agr.vis {H H' : Heap} (h : ∀ b, Vis H b → H'[b]? = H[b]?) : Agr H H' := by
  classical
  intro b hb
  by_cases e : H[b]? = some masked
  · exact .inr e
  · exact .inl (h b ⟨hb, e⟩).symm

/-- Where what is read can lie. -/
theorem rd_where {w w' : World} {lo b o n : Nat} {vs : List Value} (hh : ∀ b, w.heap.size ≤ b → b < lo → b < w'.heap.size → w'.heap[b]? = some masked) (hr : Eng.rd w'.heap b o n = some vs) (hn : n ≠ 0) : b < w.heap.size ∨ lo ≤ b := by
  by_cases h1 : b < w.heap.size
  · exact .inl h1
  · by_cases h2 : b < lo
    · obtain ⟨c, T, f, h3, h4, _⟩ := rd_block hr
      rw [hh b (by omega) h2 (rd_lt hr)] at h3
      simp only [Option.some.injEq, Obj.cells.injEq] at h3
      rw [← h3.1] at h4; simp at h4; omega
    · exact .inr (by omega)

/-- A function hands back a world that shows less. -/
theorem FnB.mask {P : Program} {f : FuncId} {args : Array Value} {w : World} {F : Nat → Prop} {K K' : Value → Nat → World → Prop} (h : FnB P f args w F K)
    (hk : ∀ v lo w', Mod F w w' → w.heap.size ≤ lo → K v lo w' → ∃ w'', Sees w'' w' ∧ Mod F w w'' ∧ K' v lo w'') : FnB P f args w F K' := by
  intro w1 hs
  refine (h w1 hs).mono fun e wr hp => ?_
  obtain ⟨v, w', rfl, ho, hK⟩ := hp
  obtain ⟨w'', h1, h2, h3⟩ := hk v _ w' ho.umod hs.size hK
  refine ⟨v, w'', rfl, ⟨ho.mod, h1.trans ho.sees, h2, fun b hb1 hb2 hb3 => ?_⟩, h3⟩
  rcases h1.block b hb3 with e | e
  · rw [e]; exact ho.hid b hb1 hb2 (Nat.lt_of_lt_of_le hb3 h1.size)
  · exact e

/-- All that may be written is there. -/
def Wf (u : UW) : Prop := ∀ b, u.pub b → b < u.heap.size

theorem Wf.ret {u : UW} {lo : Nat} {w' : World} (h : Wf u) (hs : u.heap.size ≤ w'.heap.size) : Wf (u.ret lo w') := fun b hb => hb.elim (fun hb => Nat.lt_of_lt_of_le (h b hb) hs) (fun hb => hb.2)
theorem Wf.born {u : UW} {b : Nat} {w' : World} {o : Obj} (h : Wf u) (hb : Born u.toWorld w' b o) : Wf (u.born b w') := fun c hc => hc.elim (fun hc => Nat.lt_of_lt_of_le (h c hc) hb.below.size) (fun e => by subst e; exact (Array.getElem?_eq_some_iff.1 hb.at_).1)
theorem Wf.sto {u : UW} {b : Nat} {w' : World} {o : Obj} (h : Wf u) (hb : Sto u.toWorld w' b o) : Wf (u.sto w') := fun c hc => Nat.lt_of_lt_of_le (h c hc) hb.size

theorem CallV.mono {P : Program} {f : Value} {args : List Value} {u : UW} {K K' : Value → UW → Prop} (h : CallV P f args u K)
    (hk : ∀ v lo w', Mod u.pub u.toWorld w' → u.heap.size ≤ lo → K v (u.ret lo w') → K' v (u.ret lo w')) : CallV P f args u K' := by
  obtain ⟨F, hF, h⟩ := CallV_iff.1 h
  exact CallV_iff.2 ⟨F, hF, h.mono fun v lo w' hm hl _ hK => hk v lo w' ⟨hm.os, hm.tape, hm.output, hm.size, fun b hb hn => hm.keep b hb fun hf => hn (hF b hf)⟩ hl hK⟩

theorem CallV.fn {P : Program} {g : FuncId} {first captured : Array Value} {args : List Value} {u : UW} {K : Value → UW → Prop} (hc : callable P g = true) (h : CallF P g (first.toList ++ args ++ captured.toList).toArray u K) : CallV P (.func (.func g) first captured) args u K := by
  show (bif callable P g then CallF P g (first.toList ++ args ++ captured.toList).toArray u K else False)
  rw [hc]; exact h

/-- A client's world, and that of a function that calls it. -/
structure Rel (c u : UW) : Prop where
  sees : Sees c.toWorld u.toWorld
  pub : ∀ b, c.pub b → u.pub b
  wf : Wf c

theorem CallV.widen {P : Program} {f : Value} {args : List Value} {c u : UW} {K : Value → UW → Prop} (h : CallV P f args c K) (hr : Rel c u) :
    CallV P f args u fun v u' => ∃ c', Rel c' u' ∧ K v c' ∧ Mod c.pub c.toWorld c'.toWorld ∧ Mod c.pub u.toWorld u'.toWorld ∧ (∀ b, c'.pub b → c.pub b ∨ u.heap.size ≤ b) ∧ ∃ lo, u.heap.size ≤ lo ∧ u' = u.ret lo u'.toWorld := by
  obtain ⟨F, hF, h⟩ := CallV_iff.1 h
  have toPub : ∀ {a b : World}, Mod F a b → Mod c.pub a b := fun hm => ⟨hm.os, hm.tape, hm.output, hm.size, fun b hb hn => hm.keep b hb fun hf => hn (hF b hf)⟩
  have h2 : ValB P f args c.toWorld F fun v lo w' => K v (c.ret lo w') ∧ Mod c.pub c.toWorld w' := h.mono fun v lo w' hm _ _ hK => ⟨hK, toPub hm⟩
  refine CallV_iff.2 ⟨F, fun b hb => hr.pub b (hF b hb), (h2.widen hr.sees).mono ?_⟩
  rintro v lo u' hm hl _ ⟨w', hs, hK, hmc⟩
  refine ⟨c.ret lo w', ⟨hs, fun b hb => ?_, hr.wf.ret hmc.size⟩, hK, hmc, toPub hm, fun b hb => hb.imp id (fun h => by omega), lo, hl, rfl⟩
  exact hb.imp (hr.pub b) fun h => ⟨h.1, Nat.lt_of_lt_of_le h.2 hs.size⟩

/-- A client's world that has grown by what it is handed. -/
structure Grow (c c1 : UW) : Prop where
  below : Below c.heap.size c.toWorld c1.toWorld
  pub : ∀ b, c.pub b → c1.pub b
  new : ∀ b, c1.pub b → c.pub b ∨ c.heap.size ≤ b
  wf : Wf c1

theorem Grow.refl {c : UW} (h : Wf c) : Grow c c := ⟨Below.refl _ _, fun _ h => h, fun _ h => .inl h, h⟩

/-- New blocks are handed over to a client. -/
theorem Rel.hand {c u : UW} (hr : Rel c u) (hw : Wf u) (Hs : Nat → Prop) (hH : ∀ b, Hs b → c.heap.size ≤ b ∧ u.pub b) :
    ∃ c1, Grow c c1 ∧ Rel c1 u ∧ (∀ b, Hs b → c1.heap[b]? = u.heap[b]? ∧ c1.pub b) ∧ ∀ b, c1.pub b → c.pub b ∨ Hs b := by
  classical
  obtain ⟨g, hg⟩ : ∃ g : Nat → Obj, g = fun i => if i < c.heap.size then (c.heap[i]?).getD masked else if Hs i then (u.heap[i]?).getD masked else masked := ⟨_, rfl⟩
  have hsz := hr.sees.size
  have hget : ∀ i, i < u.heap.size → (Array.ofFn (n := u.heap.size) fun i => g i.1)[i]? = some (g i) := fun i hi => by simp [hi]
  have hold : ∀ i, i < c.heap.size → (Array.ofFn (n := u.heap.size) fun i => g i.1)[i]? = c.heap[i]? := fun i hi => by
    rw [hget i (by omega), hg]; simp only [hi, if_true]; rw [Array.getElem?_eq_getElem hi]; rfl
  have hnew : ∀ i, Hs i → (Array.ofFn (n := u.heap.size) fun i => g i.1)[i]? = u.heap[i]? := fun i hi => by
    have h1 := (hH i hi).1
    have h2 := hw i (hH i hi).2
    rw [hget i h2, hg]; simp only [Nat.not_lt.2 h1, if_false, hi, if_true]; rw [Array.getElem?_eq_getElem h2]; rfl
  have hs1 : (Array.ofFn (n := u.heap.size) fun i => g i.1).size = u.heap.size := by simp
  have wf1 : Wf ⟨{ c.toWorld with heap := Array.ofFn (n := u.heap.size) fun i => g i.1 }, fun b => c.pub b ∨ Hs b⟩ := by
    intro b hb
    show b < (Array.ofFn (n := u.heap.size) fun i => g i.1).size
    rw [hs1]
    exact hb.elim (fun h => Nat.lt_of_lt_of_le (hr.wf b h) hsz) fun h => hw b (hH b h).2
  refine ⟨⟨{ c.toWorld with heap := Array.ofFn (n := u.heap.size) fun i => g i.1 }, fun b => c.pub b ∨ Hs b⟩, ⟨⟨rfl, rfl, rfl, ?_, hold⟩, fun b h => .inl h, fun b h => h.imp id fun h => (hH b h).1, wf1⟩, ⟨⟨hr.sees.os, hr.sees.tape, hr.sees.output, ?_, fun b hb => ?_⟩, fun b h => h.elim (hr.pub b) fun h => (hH b h).2, wf1⟩, fun b hb => ⟨hnew b hb, .inr hb⟩, fun b hb => hb⟩
  · show _ ≤ (Array.ofFn (n := u.heap.size) fun i => g i.1).size
    rw [hs1]; exact hsz
  · show (Array.ofFn (n := u.heap.size) fun i => g i.1).size ≤ _
    rw [hs1]; exact Nat.le_refl _
  · show (Array.ofFn (n := u.heap.size) fun i => g i.1)[b]? = _ ∨ (Array.ofFn (n := u.heap.size) fun i => g i.1)[b]? = _
    have hb' : b < u.heap.size := by rw [← hs1]; exact hb
    by_cases h1 : b < c.heap.size
    · rw [hold b h1]; exact hr.sees.block b h1
    · by_cases h2 : Hs b
      · exact .inl (hnew b h2)
      · right
        rw [hget b hb', hg]; simp only [h1, h2, if_false]

/-- Where a client stands that began at cl. -/
structure Cli (cl c : UW) : Prop where
  mod : Mod cl.pub cl.toWorld c.toWorld
  new : ∀ b, c.pub b → cl.pub b ∨ cl.heap.size ≤ b

theorem Cli.refl (cl : UW) : Cli cl cl := ⟨Mod.refl _ _, fun _ h => .inl h⟩

theorem Cli.grow {cl c c1 : UW} (h : Cli cl c) (hg : Grow c c1) : Cli cl c1 :=
  ⟨⟨hg.below.os.trans h.mod.os, hg.below.tape.trans h.mod.tape, hg.below.output.trans h.mod.output, Nat.le_trans h.mod.size hg.below.size, fun b hb hn => (hg.below.block b (Nat.lt_of_lt_of_le hb h.mod.size)).trans (h.mod.keep b hb hn)⟩,
    fun b hb => (hg.new b hb).elim (h.new b) fun hh => .inr (Nat.le_trans h.mod.size hh)⟩

theorem Cli.call {cl c c1 : UW} {N : Nat} (h : Cli cl c) (hm : Mod c.pub c.toWorld c1.toWorld) (hN : c.heap.size ≤ N) (hn : ∀ b, c1.pub b → c.pub b ∨ N ≤ b) : Cli cl c1 :=
  ⟨⟨hm.os.trans h.mod.os, hm.tape.trans h.mod.tape, hm.output.trans h.mod.output, Nat.le_trans h.mod.size hm.size, fun b hb hnp => (hm.keep b (Nat.lt_of_lt_of_le hb h.mod.size) fun hp => (h.new b hp).elim hnp fun hh => by omega).trans (h.mod.keep b hb hnp)⟩,
    fun b hb => (hn b hb).elim (h.new b) fun hh => .inr (by have := h.mod.size; omega)⟩

theorem Below.sees {w w' : World} (h : Below w.heap.size w w') : Sees w w' := ⟨h.os, h.tape, h.output, h.size, fun b hb => .inl (h.block b hb).symm⟩

theorem Rel.below {c u u' : UW} (h : Rel c u) (hb : Below u.heap.size u.toWorld u'.toWorld) (hp : ∀ b, u.pub b → u'.pub b) : Rel c u' := ⟨h.sees.trans (Below.sees hb), fun b hb => hp b (h.pub b hb), h.wf⟩

/-- Function fv calls whatever it is handed with things as As tells, one behind the other, as long as it is told to go on. What it looks at lies in X, as it lay in H. -/
def IsSeq (P : Program) (fv : Value) (As : List (List Value → Nat → UW → Prop)) (X : Nat → Prop) (H : Heap) : Prop :=
  (∃ g a b, fv = .func (.func g) a b) ∧ ∀ (yv : Value) (c : UW) (I : Nat → UW → Prop) (S : UW → Prop), (∃ f a b, yv = .func f a b) → Wf c → (∀ b, X b → c.heap[b]? = H[b]? ∧ ¬ c.pub b) → I 0 c →
    (∀ (k : Nat) (hk : k < As.length) (c c1 : UW) (vs : List Value), I k c → Grow c c1 → (As[k]'hk) vs c.heap.size c1 → CallV P yv vs c1 fun v c' => (v = .bool true ∧ I (k + 1) c') ∨ (v = .bool false ∧ S c')) →
    CallV P fv [yv] c fun _ u' => ∃ c', u'.toWorld = c'.toWorld ∧ (∀ b, c'.pub b → u'.pub b) ∧ (I As.length c' ∨ S c')

/-- The world of a loop's rounds, from one to the next. -/
structure GrowB (P0 : Nat → Prop) (N : Nat) (u u1 : UW) : Prop where
  below : Below u.heap.size u.toWorld u1.toWorld
  pub : ∀ b, u.pub b → u1.pub b
  new : ∀ b, u1.pub b → P0 b ∨ N ≤ b
  wf : Wf u1

/-- What is handed over speaks of cells. -/
def Stb (A : List Value → Nat → UW → Prop) : Prop := ∀ vs lo u l o, A vs lo u → u.heap[l]? = some o → isLoop o = true → A vs lo ⟨u.toWorld.putObj l masked, fun b => u.pub b ∧ b ≠ l⟩

theorem putObj_back {w : World} {l : Nat} {o : Obj} (h : w.heap[l]? = some masked) : (w.putObj l o).putObj l masked = w := by
  obtain ⟨hl, he⟩ := Array.getElem?_eq_some_iff.1 h
  unfold World.putObj
  simp only [Array.setIfInBounds_setIfInBounds]
  have : w.heap.setIfInBounds l masked = w.heap := by
    refine Array.ext (by simp) fun i h1 h2 => ?_
    rw [Array.getElem_setIfInBounds]
    split
    · rename_i e; subst e; exact he.symm
    · rfl
  rw [this]

theorem CallV.more {P : Program} {f : Value} {args : List Value} {w : World} {p1 p2 : Nat → Prop} {K K' : Value → UW → Prop} (h : CallV P f args ⟨w, p1⟩ K) (hp : ∀ b, p1 b → p2 b)
    (hk : ∀ v lo w', Mod p1 w w' → w.heap.size ≤ lo → K v (UW.ret ⟨w, p1⟩ lo w') → K' v (UW.ret ⟨w, p2⟩ lo w')) : CallV P f args ⟨w, p2⟩ K' := by
  obtain ⟨F, hF, h⟩ := CallV_iff.1 h
  exact CallV_iff.2 ⟨F, fun b hb => hp b (hF b hb), h.mono fun v lo w' hm hl _ hK => hk v lo w' ⟨hm.os, hm.tape, hm.output, hm.size, fun b hb hn => hm.keep b hb fun hf => hn (hF b hf)⟩ hl hK⟩

/-- A loop over a sequence; its rounds write blocks of P0, and new ones. -/
theorem RangeF.seq {P : Program} {fv : Value} {body : List Value → (Option Code → UW → Prop) → UW → Prop} {K : Option Code → UW → Prop} {u : UW} {As : List (List Value → Nat → UW → Prop)} {X : Nat → Prop} {H : Heap} (P0 : Nat → Prop) (hP0 : ∀ b, P0 b → u.pub b)
    (hseq : IsSeq P fv As X H) (hX : ∀ b, X b → b < u.heap.size ∧ u.heap[b]? = H[b]? ∧ ¬ P0 b) (hst : ∀ A ∈ As, Stb A) (hwf : Wf u)
    (I : Nat → UW → Prop) (S : Code → UW → Prop) (hIw : ∀ k u, I k u → Wf u) (hSw : ∀ c u, S c u → Wf u)
    (h0 : ∀ u1, GrowB P0 u.heap.size ⟨u.toWorld, P0⟩ u1 → I 0 u1)
    (hstep : ∀ (k : Nat) (hk : k < As.length) (u0 u1 : UW) (vs : List Value) (RR : Option Code → UW → Prop), I k u0 → GrowB P0 u.heap.size u0 u1 → (As[k]'hk) vs u0.heap.size u1 → (∀ u2, I (k + 1) u2 → RR none u2) → (∀ c u2, S c u2 → RR (some c) u2) → body vs RR u1)
    (hend : ∀ u0 u1, I As.length u0 → GrowB u.pub u.heap.size u0 u1 → (∀ b, u.pub b → u1.pub b) → K none u1) (hS : ∀ c u0 u1, S c u0 → GrowB u.pub u.heap.size u0 u1 → (∀ b, u.pub b → u1.pub b) → K (some c) u1) : RangeF P fv body K u := by
  refine ⟨hseq.1, fun l rec w' hrec hborn hy => ?_⟩
  have hll : l < w'.heap.size := (Array.getElem?_eq_some_iff.1 hborn.at_).1
  -- the client's invariant, the record shown
  obtain ⟨I2, hI2⟩ : ∃ I2 : (UW → Prop) → Option Code → UW → Prop, I2 = fun J p c => Wf c ∧ c.heap[l]? = some (rec p) ∧ c.pub l ∧ (∀ b, c.pub b → P0 b ∨ u.heap.size ≤ b) ∧ ∃ u0 : UW, u0.toWorld = c.toWorld.putObj l masked ∧ (∀ b, u0.pub b → c.pub b ∧ b ≠ l) ∧ J u0 := ⟨_, rfl⟩
  have hgrow : ∀ (Q : Nat → Prop) (c c1 u0 : UW) (p : Option Code), c.heap[l]? = some (rec p) → Wf c1 → Below c.heap.size c.toWorld c1.toWorld → (∀ b, c.pub b → c1.pub b) → (∀ b, c1.pub b → Q b ∨ u.heap.size ≤ b) → u0.toWorld = c.toWorld.putObj l masked → (∀ b, u0.pub b → c.pub b ∧ b ≠ l) →
      GrowB Q u.heap.size u0 ⟨c1.toWorld.putObj l masked, fun b => c1.pub b ∧ b ≠ l⟩ := by
    intro Q c c1 u0 p hl hw hb hp hn e1 e2
    have hlc : l < c.heap.size := (Array.getElem?_eq_some_iff.1 hl).1
    have hs : u0.heap.size = c.heap.size := by show u0.toWorld.heap.size = _; rw [e1]; simp
    refine ⟨⟨?_, ?_, ?_, ?_, fun k hk => ?_⟩, fun b hb => ⟨hp b (e2 b hb).1, (e2 b hb).2⟩, fun b hb => hn b hb.1, fun b hb => by simpa using hw b hb.1⟩
    · rw [e1]; exact hb.os
    · rw [e1]; exact hb.tape
    · rw [e1]; exact hb.output
    · rw [hs]; simpa using hb.size
    · rw [e1]
      by_cases e : k = l
      · subst e
        rw [World.putObj_heap_same hlc, World.putObj_heap_same (Nat.lt_of_lt_of_le hlc hb.size)]
      · rw [putObj_get e, putObj_get e]; exact hb.block k (by omega)
  have hb0 : Below u.heap.size u.toWorld (w'.putObj l masked) := by
    refine ⟨hborn.below.os, hborn.below.tape, hborn.below.output, by simpa using hborn.below.size, fun k hk => ?_⟩
    rw [putObj_get (by have := hborn.ge; omega)]; exact hborn.below.block k hk
  have hwb : Wf (u.born l w') := hwf.born hborn
  have hwc : Wf ⟨w', fun b => P0 b ∨ b = l⟩ := fun b hb => hwb b (hb.imp (hP0 b) id)
  have hnb : ∀ b, (P0 b ∨ b = l) → P0 b ∨ u.heap.size ≤ b := fun b hb => hb.imp id (fun e => by subst e; exact hborn.ge)
  have start : I2 (I 0) none ⟨w', fun b => P0 b ∨ b = l⟩ := by
    rw [hI2]
    refine ⟨hwc, hborn.at_, .inr rfl, hnb, ⟨w'.putObj l masked, fun b => (P0 b ∨ b = l) ∧ b ≠ l⟩, rfl, fun b hb => hb, h0 _ ⟨hb0, fun b hb => ⟨.inl hb, ?_⟩, fun b hb => hnb b hb.1, fun b hb => ?_⟩⟩
    · intro e; have := hwf b (hP0 b hb); have := hborn.ge; omega
    · show b < (w'.putObj l masked).heap.size
      rw [World.putObj_size]; exact hwc b hb.1
  refine CallV.more (p1 := fun b => P0 b ∨ b = l) (hseq.2 (.func (.yield l) #[] #[]) ⟨w', fun b => P0 b ∨ b = l⟩ (fun k => I2 (I k) none) (fun c => ∃ p, I2 (S p) (some p) c) ⟨_, _, _, rfl⟩ hwc (fun b hb => ?_) start ?_) (fun b hb => hb.imp (hP0 b) id) ?_
  · obtain ⟨h1, h2, h3⟩ := hX b hb
    exact ⟨(hborn.below.block b h1).trans h2, fun hp => hp.elim h3 fun e => by have := hborn.ge; omega⟩
  · intro k hk c c1 vs hIk hg hA
    rw [hI2] at hIk
    obtain ⟨_, hl, hpl, hnc, u0, e1, e2, hJ⟩ := hIk
    have hl1 : c1.heap[l]? = some (rec none) := by rw [hg.below.block l (Array.getElem?_eq_some_iff.1 hl).1]; exact hl
    have hn1 : ∀ b, c1.pub b → P0 b ∨ u.heap.size ≤ b := fun b hb => (hg.new b hb).elim (hnc b) fun h => by
      have h1 : u.heap.size ≤ l := hborn.ge
      have h2 : l < c.heap.size := (Array.getElem?_eq_some_iff.1 hl).1
      exact .inr (by omega)
    have hgb := hgrow P0 c c1 u0 none hl hg.wf hg.below hg.pub hn1 e1 e2
    have hs0 : c.heap.size = u0.heap.size := by show _ = u0.toWorld.heap.size; rw [e1]; simp
    rw [hs0] at hA
    have hbody := hstep k hk u0 _ vs (fun p u2 => match p with | none => I (k + 1) u2 | some cd => S cd u2) hJ hgb (hst _ (List.getElem_mem hk) vs _ c1 l _ hA hl1 (hrec none)) (fun _ h => h) (fun _ _ h => h)
    have hv := hy vs c1.toWorld (fun b => c1.pub b ∧ b ≠ l) _ hl1 (fun b hb => ⟨hg.wf b hb.1, hb.2⟩) hbody
    refine CallV_iff.2 ⟨_, fun b hb => hb.elim (fun h => h.1) (fun e => by subst e; exact hg.pub _ hpl), hv.mono ?_⟩
    rintro v lo w2 hm hlo _ ⟨p, pub, w3, rfl, rfl, hmask, hpub, hR⟩
    have hl3 : l < w3.heap.size := (Array.getElem?_eq_some_iff.1 hmask).1
    have hsz : c1.heap.size ≤ w3.heap.size := by simpa using hm.size
    have hc1 : u.heap.size ≤ c1.heap.size := by
      have h1 : u.heap.size ≤ l := hborn.ge
      have h2 : l < c1.heap.size := (Array.getElem?_eq_some_iff.1 hl1).1
      omega
    have mk : ∀ (J : UW → Prop), J ⟨w3, pub⟩ → Wf ⟨w3, pub⟩ → I2 J p (c1.ret lo (w3.putObj l (rec p))) := by
      intro J hJ3 hw3
      rw [hI2]
      refine ⟨hg.wf.ret (by simpa using hsz), World.putObj_heap_same hl3, .inl (hg.pub _ hpl), fun b hb => hb.elim (hn1 b) (fun h => .inr (by omega)), ⟨w3, pub⟩, (putObj_back hmask).symm, fun b hb => ?_, hJ3⟩
      have hlc1 : l < c1.heap.size := (Array.getElem?_eq_some_iff.1 hl1).1
      rcases hpub b hb with h | h
      · exact ⟨.inl h.1, h.2⟩
      · exact ⟨.inr ⟨h, by simpa using hw3 b hb⟩, by omega⟩
    cases p with
    | none => exact .inl ⟨rfl, mk _ hR (hIw _ _ hR)⟩
    | some cd => exact .inr ⟨rfl, cd, mk _ hR (hSw _ _ hR)⟩
  · rintro v lo w2 hm hlo ⟨c', e1, e2, hor⟩
    have hwu : Wf ((u.born l w').ret lo w2) := hwb.ret hm.size
    have hub : u.heap.size ≤ w'.heap.size := hborn.below.size
    have hnu : ∀ b, ((u.born l w').ret lo w2).pub b → u.pub b ∨ u.heap.size ≤ b := fun b hb => hb.elim (fun h => h.imp id fun e => by subst e; exact hborn.ge) fun h => .inr (by omega)
    have e2' : ∀ b, c'.pub b → ((u.born l w').ret lo w2).pub b := fun b hb => (e2 b hb).imp (fun h => h.imp (hP0 b) id) id
    have fin : ∀ p (J : UW → Prop), I2 J p c' → (∀ u0 u1, J u0 → GrowB u.pub u.heap.size u0 u1 → (∀ b, u.pub b → u1.pub b) → K p u1) → ∃ p, ((u.born l w').ret lo w2).heap[l]? = some (rec p) ∧ K p ⟨((u.born l w').ret lo w2).toWorld.putObj l masked, fun b => ((u.born l w').ret lo w2).pub b ∧ b ≠ l⟩ := by
      intro p J hJ hK
      rw [hI2] at hJ
      obtain ⟨_, hl, _, _, u0, e3, e4, hJ⟩ := hJ
      have e1 : w2 = c'.toWorld := e1
      refine ⟨p, ?_, hK u0 _ hJ (hgrow u.pub c' ((u.born l w').ret lo w2) u0 p hl hwu ?_ e2' hnu e3 e4) fun b hb => ⟨.inl (.inl hb), ?_⟩⟩
      · show w2.heap[l]? = _
        rw [e1]; exact hl
      · show Below _ _ w2
        rw [e1]; exact Below.refl _ _
      · intro e; have := hwf b hb; have := hborn.ge; omega
    rcases hor with h | ⟨cd, h⟩
    · exact fin none _ h hend
    · exact fin (some cd) _ h (hS cd)

end Go.Eng

/-
  V is sound: operations that touch no memory.
-/
namespace Go.Eng
open Go.RowKit
set_option linter.unusedVariables false

theorem cBin_mono {P : Program} {op : BinOp} {t : TypeId} {x y : Value} {K K' : Value → Prop} (h : cBin P op t x y K) (hk : ∀ v, plain v = true → one v = true → K v → K' v) : cBin P op t x y K' := by
  unfold cBin at h ⊢
  split at h
  · try simp only
    obtain ⟨hc, h⟩ := bif_elim h
    rw [hc]
    try simp only [cond_true]
    unfold intBin at h ⊢
    split at h <;> (try simp only) <;> first | exact hk _ rfl rfl h | exact ⟨h.1, hk _ rfl rfl h.2⟩ | exact h.elim
  · try simp only
    unfold strBin at h ⊢
    split at h <;> (try simp only) <;> first | exact hk _ rfl rfl h | exact ⟨h.1, hk _ rfl rfl h.2⟩ | exact h.elim
  · try simp only
    split at h
    · rename_i hu; (try rw [hu]); try simp only
      split at h <;> (try simp only) <;> first | exact hk _ rfl rfl h | exact h.elim
    · exact h.elim
  · try simp only
    split at h
    · exact h.elim
    · rename_i hu; (try rw [hu]); try simp only
      obtain ⟨hc, h⟩ := bif_elim h
      rw [hc]; simp only [cond_true]
      split at h
      · rename_i hu; (try rw [hu]); try simp only
        split at h <;> (try simp only) <;> first | exact hk _ rfl rfl h | exact h.elim
      · exact h.elim
  · try simp only
    split at h
    · rename_i hu; (try rw [hu]); try simp only
      split at h <;> (try simp only) <;> first | exact hk _ rfl rfl h | exact h.elim
    · exact h.elim
  · try simp only
    split at h
    · rename_i hu; (try rw [hu]); try simp only
      split at h <;> (try simp only) <;> first | exact hk _ rfl rfl h | exact h.elim
    · exact h.elim
  · try simp only
    split at h
    · rename_i hu; (try rw [hu]); try simp only
      split at h <;> (try simp only) <;> first | exact hk _ rfl rfl h | exact h.elim
    · exact h.elim
  · exact h.elim

theorem cBin_fn {P : Program} {op : BinOp} {t : TypeId} {f : Fn} {a b a' b' : Array Value} {K : Value → Prop} (h : cBin P op t (.func f a b) .nilFunc K) : cBin P op t (.func f a' b') .nilFunc K := h

theorem unraw_rep {Z : Fz} : ∀ {ps : List PV} {vs ws : List Value}, unraw ps = some vs → RepC Z ps ws → ws = vs
  | [], vs, ws, h, hr => by simp only [unraw, Option.some.injEq] at h; subst h; exact hr.inv0
  | .raw v :: ps, vs, ws, h, hr => by
    simp only [unraw] at h
    cases hu : unraw ps with
    | none => rw [hu] at h; cases h
    | some us =>
      rw [hu] at h
      simp only [Option.some.injEq] at h
      subst h
      obtain ⟨w, ws', rfl, h1, h2, h3⟩ := hr.inv
      rw [h2.ofRaw.1, unraw_rep hu h3]
  | .list .. :: _, _, _, h, _ => by simp [unraw] at h
  | .fptr .. :: _, _, _, h, _ => by simp [unraw] at h
  | .fn .. :: _, _, _, h, _ => by simp [unraw] at h
  | .agg .. :: _, _, _, h, _ => by simp [unraw] at h
  | .tup .. :: _, _, _, h, _ => by simp [unraw] at h
  | .iface .. :: _, _, _, h, _ => by simp [unraw] at h
  | .box .. :: _, _, _, h, _ => by simp [unraw] at h
  | .poison :: _, _, _, h, _ => by simp [unraw] at h

theorem cBin_rep {Z : Fz} {P : Program} {op : BinOp} {t : TypeId} {x y : PV} {a b : Value} {KP : PV → Prop} {K : Value → Prop} (hx : Rep Z x a) (hy : Rep Z y b) (h : cBinP P op t x y KP) (hk : ∀ p v, Rep Z p v → KP p → K v) : cBin P op t a b K := by
  unfold cBinP at h
  split at h
  · rw [hx.ofRaw.1, hy.ofRaw.1]
    exact cBin_mono h fun v h1 h2 hv => hk _ v (.raw v h1 h2) hv
  · rename_i as bs
    cases h1 : unraw as with
    | none => rw [h1] at h; exact h.elim
    | some us =>
      cases h2 : unraw bs with
      | none => rw [h1, h2] at h; exact h.elim
      | some ws =>
        rw [h1, h2] at h
        obtain ⟨vs, rfl, hc⟩ := hx.ofAgg
        obtain ⟨vs', rfl, hc'⟩ := hy.ofAgg
        rw [unraw_rep h1 hc, unraw_rep h2 hc']
        exact cBin_mono h fun v h1 h2 hv => hk _ v (.raw v h1 h2) hv
  · obtain ⟨fv, cv, rfl, _⟩ := hx.ofFn
    rw [hy.ofRaw.1]
    exact cBin_mono (cBin_fn h) fun v h1 h2 hv => hk _ v (.raw v h1 h2) hv
  · exact h.elim

theorem pv_makeInterface {P : Program} {t : TypeId} {v : Value} (h : (match P.underlying t with | some (.interface _) => false | some _ => true | none => false) = true) : pv P (Instr.makeInterface t v) = some (.iface t v) := by
  unfold Instr.makeInterface underlying program
  simp only [bind, Sem.bind, pv]
  cases hu : P.underlying t with
  | none => rw [hu] at h; cases h
  | some d =>
    rw [hu] at h
    cases d <;> first | (simp at h; done) | rfl

theorem cells_len {Z : Fz} {p : PV} {v : Value} (h : Rep Z p v) (hk : p.ok = true) : v.cells.size = p.cells.length := by
  have := (h.cells hk).1
  simpa using this

theorem bldS_rep {Z : Fz} {P : Program} {fs : Array Field} : ∀ {ps : List (Nat × PV)} {vs : List (Nat × Value)} {cs : List PV} {ds : List Value} {r : List PV}, ps.length = vs.length →
    (∀ (i : Nat) x y, ps[i]? = some x → vs[i]? = some y → x.1 = y.1 ∧ x.2.ok = true ∧ Rep Z x.2 y.2) → RepC Z cs ds → bldSP P fs ps cs = some r → ∃ w, bldS P fs vs ds = some w ∧ RepC Z r w
  | [], [], cs, ds, r, _, _, hc, h => by simp only [bldSP, Option.some.injEq] at h; subst h; exact ⟨ds, rfl, hc⟩
  | [], _ :: _, _, _, _, hl, _, _, _ => by simp at hl
  | _ :: _, [], _, _, _, hl, _, _, _ => by simp at hl
  | (i, p) :: ps, (i', v) :: vs, cs, ds, r, hl, hp, hc, h => by
    obtain ⟨e1, e2, e3⟩ := hp 0 _ _ rfl rfl
    simp only at e1 e2 e3
    subst e1
    simp only [bldSP] at h
    simp only [bldS]
    split at h
    · rename_i f hf
      have hlen := cells_len e3 e2
      cases hb : (Nat.beq p.cells.length (P.cellsOf f.type) && Nat.ble (f.offset + p.cells.length) cs.length && (P.info? f.type).isSome) with
      | false => rw [hb] at h; cases h
      | true =>
        rw [hb] at h
        simp only [cond_true] at h
        have hb' : (Nat.beq v.cells.size (P.cellsOf f.type) && Nat.ble (f.offset + v.cells.size) ds.length && (P.info? f.type).isSome) = true := by rw [hlen, hc.1]; exact hb
        rw [hf]
        simp only [hb', cond_true]
        refine bldS_rep (by simpa using hl) (fun i x y a b => hp (i + 1) x y (by simpa using a) (by simpa using b)) ?_ h
        rw [hlen]
        exact ((hc.take _).append (e3.cells e2)).append (hc.drop _)
    · cases h

theorem bif_some {α : Type} {b : Bool} {x : Option α} {y : α} (h : (bif b then x else none) = some y) : b = true ∧ x = some y := by
  cases b with
  | false => cases h
  | true => exact ⟨rfl, h⟩

theorem bldL_rep {Z : Fz} {size : Nat} : ∀ {i : Nat} {ps : List (Nat × PV)} {vs : List (Nat × Value)} {rows : List (List PV)}, ps.length = vs.length →
    (∀ (i : Nat) x y, ps[i]? = some x → vs[i]? = some y → x.1 = y.1 ∧ x.2.ok = true ∧ Rep Z x.2 y.2) → bldLP size i ps = some rows → ∃ w, bldL size i vs = some w ∧ RepC Z rows.flatten w ∧ rows.length = ps.length ∧ ∀ r ∈ rows, r.length = size
  | i, [], [], rows, _, _, h => by simp only [bldLP, Option.some.injEq] at h; subst h; exact ⟨[], rfl, RepC.nil Z, rfl, by simp⟩
  | _, [], _ :: _, _, hl, _, _ => by simp at hl
  | _, _ :: _, [], _, hl, _, _ => by simp at hl
  | i, (j, pp) :: ps, (j', v) :: vs, rows, hl, hp, h => by
    obtain ⟨e1, e2, e3⟩ := hp 0 _ _ rfl rfl
    simp only at e1 e2 e3
    subst e1
    simp only [bldLP] at h
    simp only [bldL]
    have hlen := cells_len e3 e2
    cases hb : (Nat.beq i j && Nat.beq pp.cells.length size) with
    | false => rw [hb] at h; cases h
    | true =>
      rw [hb] at h
      have hb' : (Nat.beq i j && Nat.beq v.cells.size size) = true := by rw [hlen]; exact hb
      rw [hb']
      simp only [cond_true] at h ⊢
      cases hrs : bldLP size (i + 1) ps with
      | none => rw [hrs] at h; cases h
      | some rs =>
        rw [hrs] at h
        simp only [Option.some.injEq] at h
        subst h
        obtain ⟨w, hw, hrep, hl2, hr2⟩ := bldL_rep (vs := vs) (by simpa using hl) (fun i x y a b => hp (i + 1) x y (by simpa using a) (by simpa using b)) hrs
        rw [hw]
        refine ⟨_, rfl, (e3.cells e2).wk.append hrep, by simp [hl2], fun r hr => ?_⟩
        simp only [List.mem_cons] at hr
        rcases hr with rfl | hr
        · simp only [List.length_map]
          simp only [Bool.and_eq_true, beq_iff] at hb; exact hb.2
        · exact hr2 r hr

theorem bld_rep {Z : Fz} {P : Program} {t : TypeId} {ps : List (Nat × PV)} {vs : List (Nat × Value)} {r : List PV} (hl : ps.length = vs.length)
    (hp : ∀ (i : Nat) x y, ps[i]? = some x → vs[i]? = some y → x.1 = y.1 ∧ x.2.ok = true ∧ Rep Z x.2 y.2) (h : bldP P t ps = some r) : ∃ w, bld P t vs = some w ∧ RepC Z r w := by
  unfold bldP at h
  unfold bld
  split at h
  · rename_i z fs hz hu
    rw [hz, hu]
    simp only
    cases hb : ((zeroP P t z).ok && aggT P t && fs.toList.all fun f => (P.info? f.type).isSome) with
    | false => rw [hb] at h; cases h
    | true =>
      rw [hb] at h
      simp only [cond_true] at h
      have hb' : (fs.toList.all fun f => (P.info? f.type).isSome) = true := by
        simp only [Bool.and_eq_true] at hb; exact hb.2
      rw [hb']
      simp only [cond_true]
      split at h
      · rename_i cs hcs
        have hz := (ofV_rep Z z).nrmT (P := P) (t := t)
        have hz' : Rep Z (.agg cs) z := by rw [← hcs]; exact hz
        obtain ⟨ds, rfl, hc⟩ := hz'.ofAgg
        refine bldS_rep (by simpa using hl) (fun i x y a b => ?_) hc h
        rw [List.getElem?_map] at a
        cases hx : ps[i]? with
        | none => simp [hx] at a
        | some x0 =>
          simp only [hx, Option.map_some, Option.some.injEq] at a
          obtain ⟨e1, e2, e3⟩ := hp i x0 y hx b
          subst a
          refine ⟨e1, ?_, ?_⟩
          · simp only; split
            · rw [nrmT_ok]; exact e2
            · exact e2
          · simp only; split
            · exact e3.nrmT
            · exact e3
      · cases h
  · rename_i z len e hz hu
    rw [hz, hu]
    simp only
    obtain ⟨hb, h⟩ := bif_some h
    simp only [Bool.and_eq_true] at hb
    rw [← hl, hb.1.1, hb.1.2, hb.2]
    simp only [Bool.and_true, cond_true]
    split at h
    · rename_i rows hrows
      simp only [Option.some.injEq] at h
      subst h
      obtain ⟨w, hw, hrep, _⟩ := bldL_rep (Z := Z) (vs := vs) (by simpa using hl) (fun i x y a b => by
        rw [List.getElem?_map] at a
        cases hx : ps[i]? with
        | none => simp [hx] at a
        | some x0 =>
          simp only [hx, Option.map_some, Option.some.injEq] at a
          obtain ⟨e1, e2, e3⟩ := hp i x0 y hx b
          subst a
          exact ⟨e1, by rw [nrmT_ok]; exact e2, e3.nrmT⟩) hrows
      exact ⟨w, hw, hrep⟩
    · cases h
  · cases h

theorem elt_rep {Z : Fz} {P : Program} {e : TypeId} {off : Nat} {cs : List PV} {vs : List Value} {p : PV} (hc : RepC Z cs vs) (h : eltP P e off cs = some p) : ∃ v, eltV P e off vs = some v ∧ p.ok = true ∧ Rep Z p v := by
  unfold eltP at h
  unfold eltV
  obtain ⟨hb, h⟩ := bif_some h
  rw [hc.1, hb]
  simp only [cond_true]
  cases ha : aggT P e with
  | true =>
    rw [ha] at h
    simp only [cond_true, Option.some.injEq] at h ⊢
    subst h
    exact ⟨_, rfl, rfl, ((hc.drop _).take _).toAgg⟩
  | false =>
    rw [ha] at h
    simp only [cond_false] at h ⊢
    obtain ⟨v, hv, hk, hr⟩ := hc.get h
    exact ⟨v, hv, PV.ok_cell hk, hr⟩

theorem fld_rep {Z : Fz} {P : Program} {t : TypeId} {f : Nat} {cs : List PV} {vs : List Value} {p : PV} (hc : RepC Z cs vs) (h : fldP P t f cs = some p) : ∃ v, fldV P t f vs = some v ∧ p.ok = true ∧ Rep Z p v := by
  unfold fldP at h
  unfold fldV
  split at h
  · rename_i fs hu
    rw [hu]
    simp only
    split at h
    · rename_i x hx
      rw [hx]
      simp only
      rw [hc.1]
      cases hb : ((P.underlying x.type).isSome && Nat.ble (x.offset + P.cellsOf x.type) cs.length) with
      | false => rw [hb] at h; cases h
      | true =>
        rw [hb] at h
        simp only [cond_true] at h ⊢
        cases ha : aggT P x.type with
        | true =>
          rw [ha] at h
          simp only [cond_true, Option.some.injEq] at h ⊢
          subst h
          exact ⟨_, rfl, rfl, ((hc.drop _).take _).toAgg⟩
        | false =>
          rw [ha] at h
          simp only [cond_false] at h ⊢
          obtain ⟨v, hv, hk, hr⟩ := hc.get h
          exact ⟨v, hv, PV.ok_cell hk, hr⟩
    · cases h
  · cases h

theorem optInt_rep {Z : Fz} {p : PSt} {s : St} (hr : Rel2 Z p s) {x : Option Operand} {d i : Int} (h : optIntP (evP p.σ) x d = some i) : optInt (ev s.σ) x d = some i := by
  unfold optIntP at h
  unfold optInt
  split at h
  · exact h
  · rename_i x
    split at h
    · rename_i k j he
      have := hr.ev x
      rw [he] at this
      show (match ev s.σ x with | .int _ i => some i | _ => none) = some i
      rw [this.ofRaw.1]
      exact h
    · cases h

theorem ints_rep {Z : Fz} {p : PSt} {s : St} (hr : Rel2 Z p s) : ∀ {xs : List Operand} {r : IntKind × List Int}, intsP (evP p.σ) xs = some r → intsOf (ev s.σ) xs = some r
  | [], _, h => by simp [intsP] at h
  | [x], r, h => by
    simp only [intsP] at h
    split at h
    · rename_i k i he
      have := hr.ev x
      rw [he] at this
      simp only [intsOf, this.ofRaw.1]; exact h
    · cases h
  | x :: y :: l, r, h => by
    simp only [intsP] at h
    split at h
    · rename_i k i k' is he h2
      have := hr.ev x
      rw [he] at this
      have ih := ints_rep (xs := y :: l) hr h2
      simp only [intsOf, this.ofRaw.1, ih]; exact h
    · cases h

theorem slice_rep {Z : Fz} {sz size : Nat} {fl fl' : Fl} {rows : List (List PV)} {a : Option Addr} {n c l h m : Nat} (hr : Rep Z (.list sz fl rows) (.slice a n c)) (hsz : okSz size sz rows = true) (h1 : l ≤ h) (h2 : h ≤ rows.length) (h3 : h ≤ m) (hf : FlOk fl' (slA a l m size) (h - l) (m - l)) :
    Rep Z (.list size fl' ((rows.take h).drop l)) (.slice (slA a l m size) (h - l) (m - l)) := by
  cases hr with
  | list _ _ _ _ _ _ b o C g hn hc hs hrr ha hg hk hp hf0 =>
    have hsp : m - l = 0 ∨ noSpot (slA a l m size) := by
      unfold slA
      split
      · left; omega
      · right
        intro x hx
        cases a with
        | none => cases hx
        | some y => simp only [Option.map_some, Option.some.injEq] at hx; subst hx; rfl
    have hlen : ((rows.take h).drop l).length = h - l := by simp; omega
    by_cases h0 : h - l = 0
    · have hnil : (rows.take h).drop l = [] := List.eq_nil_of_length_eq_zero (by omega)
      rw [hnil]
      refine .list size fl' [] _ (h - l) _ 0 0 [] (fun _ _ => undef) (by simp; omega) (by omega) hsp (by simp) (fun h => absurd h0 h) (fun i j hi => by omega) (by simp) (by simp) hf
    · have hn0 : n ≠ 0 := by omega
      have hsz' : sz = size := by
        unfold okSz at hsz
        cases hb : Nat.beq sz size with
        | true => exact beq_iff.1 hb
        | false =>
          rw [hb] at hsz
          simp only [cond_false] at hsz
          split at hsz
          · simp at h2; omega
          · cases hsz
      subst hsz'
      obtain ⟨ea, ez⟩ := ha hn0
      subst ea
      have hne : m ≠ l := by omega
      refine .list sz fl' _ _ (h - l) _ b (o + l * sz) C (fun i j => g (i + l) j) hlen (by omega) hsp ?_ ?_ ?_ ?_ ?_ hf
      · intro r hr; exact hrr r (List.mem_of_mem_take (List.mem_of_mem_drop hr))
      · intro _
        refine ⟨?_, ez⟩
        unfold slA; rw [if_neg hne]; rfl
      · intro i j hi hj
        have := hg (i + l) j (by omega) hj
        rw [← this]
        congr 1
        rw [Nat.add_mul]; omega
      · intro i j row p hi hj
        rw [List.getElem?_drop, List.getElem?_take] at hi
        split at hi
        · exact hk (l + i) j row p hi hj
        · cases hi
      · intro i j row p hi hj
        rw [List.getElem?_drop, List.getElem?_take] at hi
        split at hi
        · have := hp (l + i) j row p hi hj
          rw [Nat.add_comm] at this; exact this
        · cases hi

theorem Rep.ofFptr {Z : Fz} {row : List PV} {o : Nat} {w : Value} (h : Rep Z (.fptr row o) w) : ∃ (b off : Nat) (C : List Value) (g : Nat → Value), w = .pointer (some ⟨b, off + o, none⟩) ∧ Z b = some C ∧ (∀ j : Nat, j < row.length → C[off + j]? = some (g j)) ∧ (∀ (j : Nat) p, row[j]? = some p → p.cell = true) ∧ ∀ (j : Nat) p, row[j]? = some p → Rep Z p (g j) := by
  cases h with
  | fptr _ _ b off C g hz hg hk hp => exact ⟨b, off, C, g, rfl, hz, hg, hk, hp⟩

theorem allOk_ev {Z : Fz} {p : PSt} {s : St} (hr : Rel2 Z p s) {l : List Operand} (h : l.all (fun x => (evP p.σ x).ok) = true) : Reps Z (l.map (evP p.σ)) (l.map (ev s.σ)) := by
  induction l with
  | nil => exact Reps.nil Z
  | cons x l ih =>
    simp only [List.all_cons, Bool.and_eq_true] at h
    exact Reps.cons h.1 (hr.ev x) (ih h.2)

theorem all_plain_ev {Z : Fz} {p : PSt} {s : St} (hr : Rel2 Z p s) {l : List Operand} (h : l.all (fun x => (evP p.σ x).ok) = true) : l.all (fun x => plain (ev s.σ x)) = true := by
  rw [List.all_eq_true] at h ⊢
  exact fun x hx => (hr.ev x).plain (h x hx)

def isLoadO (o : Oper) : Bool := match o.op with | .load .. => true | _ => false

theorem V1_pure {E : EnvP} {q : Bool} {fz : List Nat} {o : Oper} {p : PSt} {s : St} {μ : Mem} {u : UW} {KP : PSt → Mem → Prop} {K : St → UW → Prop} {Z : Fz} (hr : Rel2 Z p s) (htk : takeable o = true) (hl : isLoadO o = false)
    (hK : ∀ p' s', Rel2 Z p' s' → KP p' μ → K s' u) (h : V1 E q fz o p μ KP) : W1 E.er fz o s u K := by
  unfold takeable at htk
  unfold isLoadO at hl
  unfold V1 at h
  unfold W1
  simp only at h ⊢
  cases hop : o.op <;> simp only [hop] at h htk hl ⊢ <;> first | (cases htk; done) | (cases hl; done) | skip
  case move x => exact hK _ _ (hr.fin o (hr.ev x).nrmT) h
  case assign x => exact hK _ _ (hr.fin o (hr.ev x).nrmT) h
  case pick c a b =>
    split at h
    · rename_i t he
      have hc := hr.ev c
      rw [he] at hc
      rw [hc.ofRaw.1]
      cases t
      · exact hK _ _ (hr.fin o (hr.ev b).nrmT) h
      · exact hK _ _ (hr.fin o (hr.ev a).nrmT) h
    · exact h.elim
  case build t ps =>
    obtain ⟨hc, h⟩ := bif_elim h
    have hpl : (ps.toList.all fun p => plain (ev s.σ p.2)) = true := by
      rw [List.all_eq_true] at hc ⊢
      exact fun x hx => (hr.ev x.2).plain (hc x hx)
    rw [hpl]
    simp only [cond_true]
    split at h
    · rename_i vs hb
      obtain ⟨w, hw, hrep⟩ := bld_rep (Z := Z) (vs := ps.toList.map fun p => (p.1, ev s.σ p.2)) (by simp) (fun i x y a b => by
        rw [List.getElem?_map] at a b
        cases hi : ps.toList[i]? with
        | none => rw [hi] at a; cases a
        | some z =>
          rw [hi] at a b
          simp only [Option.map_some, Option.some.injEq] at a b
          subst a; subst b
          exact ⟨rfl, List.all_eq_true.1 hc z (List.mem_of_getElem? hi), hr.ev z.2⟩) hb
      have hw' : bld E.er.P t (ps.toList.map fun p => (p.1, ev s.σ p.2)) = some w := hw
      rw [hw']
      exact hK _ _ (hr.fin o hrep.toAgg) h
    · exact h.elim
  case nilCheck x =>
    have hx := hr.ev x
    split at h
    · rename_i k off he
      rw [he] at hx; rw [hx.ofBox]
      exact hK _ _ (hr.fin o (.box k off)) h
    · rename_i row off he
      rw [he] at hx
      obtain ⟨b, of, C, g, hv, hz, hg, hk, hp⟩ := hx.ofFptr
      rw [hv]
      exact hK _ _ (hr.fin o (.fptr row off b of C g hz hg hk hp)) h
    · rename_i a he
      rw [he] at hx; rw [hx.ofRaw.1]
      cases a with
      | none => exact h.elim
      | some a => exact hK _ _ (hr.fin o (.raw _ rfl rfl)) h
    · rename_i f a b he
      rw [he] at hx
      obtain ⟨fv, cv, hv, h1, h2⟩ := hx.ofFn
      rw [hv]
      cases f with
      | method n => exact h.elim
      | _ => exact hK _ _ (hr.fin o (Reps.toFn h1 h2)) h
    · exact h.elim
  case binOp op t x y ft => exact cBin_rep (hr.ev x) (hr.ev y) h fun pp v hv hk => hK _ _ (hr.fin o hv) hk
  case unOp op t x =>
    have hx := hr.ev x
    split at h
    · rename_i b he
      rw [he] at hx; rw [hx.ofRaw.1]
      exact hK _ _ (hr.fin o (.raw _ rfl rfl)) h
    · rename_i k n he
      rw [he] at hx; rw [hx.ofRaw.1]
      exact hK _ _ (hr.fin o (.raw _ rfl rfl)) h
    · exact h.elim
  case convert src dst x =>
    have hx := hr.ev x
    split at h
    · rename_i v he
      rw [he] at hx
      obtain ⟨e1, e2, e3⟩ := hx.ofRaw
      rw [e1, e2]
      simp only [cond_true]
      split at h
      · rename_i v' hv
        have hv' : pv E.er.P (convert src dst v) = some v' := hv
        rw [hv']
        obtain ⟨hc, h⟩ := bif_elim h
        simp only [Bool.and_eq_true] at hc
        simp only [hc.1, cond_true]
        exact hK _ _ (hr.fin o (.raw _ hc.1 hc.2)) h
      · exact h.elim
    · exact h.elim
  case makeInterface t x =>
    have hx := hr.ev x
    obtain ⟨hc, h⟩ := bif_elim h
    simp only [Bool.and_eq_true] at hc
    rw [hx.plain hc.1]
    simp only [cond_true]
    have hm : pv E.er.P (Instr.makeInterface t (ev s.σ x)) = some (.iface t (ev s.σ x)) := pv_makeInterface hc.2
    rw [hm]
    simp only [plain, cond_true]
    exact hK _ _ (hr.fin o (.iface t _ _ hc.1 hx)) h
  case makeFunc fn first caps =>
    obtain ⟨hc, h⟩ := bif_elim h
    simp only [Bool.and_eq_true] at hc
    rw [all_plain_ev hr hc.1, all_plain_ev hr hc.2]
    simp only [Bool.and_self, cond_true]
    have wkR : ∀ {l : List Operand}, l.all (fun x => (evP p.σ x).ok) = true → Reps Z (l.map fun x => wk (evP p.σ x)) (l.map (ev s.σ)) := by
      intro l hl
      induction l with
      | nil => exact Reps.nil Z
      | cons x l ih =>
        simp only [List.all_cons, Bool.and_eq_true] at hl
        exact Reps.cons (by rw [wk_ok]; exact hl.1) (hr.ev x).wk (ih hl.2)
    exact hK _ _ (hr.fin o (Reps.toFn (wkR hc.1) (wkR hc.2))) h
  case slice t x lo hi mx =>
    have hx := hr.ev x
    split at h
    · rename_i e sz fl rows hu he
      have hu' : E.er.P.underlying t = some (.slice e) := hu
      rw [he] at hx
      obtain ⟨a, n, c, hv, hn, hc, hs, hf⟩ := hx.ofList
      rw [hu', hv]
      simp only
      rw [hv] at hx
      split at h
      · rename_i l hh m e1 e2 e3
        have e1' := optInt_rep hr e1
        rw [hn] at e2
        have e2' := optInt_rep hr e2
        cases hb : ((mx.isSome && hi.isNone) || (E.P.info? e).isNone || !okSz (E.P.cellsOf e) sz rows) with
        | true => rw [hb] at h; exact h.elim
        | false =>
          rw [hb] at h
          simp only [cond_false] at h
          simp only [Bool.or_eq_false_iff, Bool.not_eq_false'] at hb
          have hb1 : ((mx.isSome && hi.isNone) || (E.er.P.info? e).isNone) = false := by
            rw [Bool.or_eq_false_iff]; exact hb.1
          cases mx with
          | none =>
            simp only at h
            obtain ⟨g1, g2, g3, h⟩ := h
            have e3' : optInt (ev s.σ) none (c : Int) = some (c : Int) := rfl
            rw [e1', e2', e3']
            simp only [hb1, cond_false]
            refine ⟨hs.elim (fun h0 => .inl (by omega)) .inr, g1, g2, by omega, by omega, hK _ _ (hr.fin o ?_) h⟩
            exact slice_rep hx hb.2 (by omega) (by omega) (by omega) trivial
          | some y =>
            simp only at h
            obtain ⟨g1, g2, g3, g4, h⟩ := h
            have e3' : optInt (ev s.σ) (some y) (c : Int) = some m := by
              have : optIntP (evP p.σ) (some y) (c : Int) = some m := by
                unfold optIntP at e3 ⊢; exact e3
              exact optInt_rep hr this
            rw [e1', e2', e3']
            simp only [hb1, cond_false]
            subst g4
            refine ⟨hs.elim (fun h0 => .inl (by omega)) .inr, g1, g2, by omega, by omega, hK _ _ (hr.fin o ?_) h⟩
            exact slice_rep hx hb.2 (by omega) (by omega) (by omega) rfl
      · exact h.elim
    · rename_i e a len cap hu he
      have hu' : E.er.P.underlying t = some (.slice e) := hu
      rw [he] at hx
      rw [hu', hx.ofRaw.1]
      simp only
      split at h
      · rename_i l hh m e1 e2 e3
        rw [optInt_rep hr e1, optInt_rep hr e2, optInt_rep hr e3]
        simp only
        cases hb : ((mx.isSome && hi.isNone) || (E.P.info? e).isNone) with
        | true => rw [hb] at h; exact h.elim
        | false =>
          rw [hb] at h
          have hb' : ((mx.isSome && hi.isNone) || (E.er.P.info? e).isNone) = false := hb
          rw [hb']
          simp only [cond_false] at h ⊢
          obtain ⟨g1, g2, g3, g4, g5, h⟩ := h
          exact ⟨.inr g1, g2, g3, g4, g5, hK _ _ (hr.fin o (.raw _ rfl rfl)) h⟩
      · exact h.elim
    · rename_i st hu he
      have hu' : E.er.P.underlying t = some .string := hu
      rw [he] at hx
      rw [hu', hx.ofRaw.1]
      simp only
      cases mx with
      | some _ => exact h.elim
      | none =>
        simp only at h ⊢
        split at h
        · rename_i l hh e1 e2
          rw [optInt_rep hr e1, optInt_rep hr e2]
          obtain ⟨g1, g2, g3, h⟩ := h
          exact ⟨g1, g2, g3, hK _ _ (hr.fin o (.raw _ rfl rfl)) h⟩
        · exact h.elim
    · exact h.elim
  case fieldAddr t x f =>
    have hx := hr.ev x
    cases hd : fOff E.P t f with
    | none => rw [hd] at h; exact h.elim
    | some d =>
      rw [hd] at h
      have hd' : fOff E.er.P t f = some d := hd
      rw [hd']
      simp only at h ⊢
      split at h
      · rename_i k off he
        rw [he] at hx; rw [hx.ofBox]
        exact hK _ _ (hr.fin o (.box k (off + d))) h
      · rename_i row off he
        rw [he] at hx
        obtain ⟨b, of, C, g, hv, hz, hg, hk, hp⟩ := hx.ofFptr
        rw [hv]
        refine hK _ _ (hr.fin o ?_) h
        have := Rep.fptr (Z := Z) row (off + d) b of C g hz hg hk hp
        rw [← Nat.add_assoc] at this
        exact this
      · unfold withPtrP at h
        split at h
        · rename_i b off he
          rw [he] at hx
          rw [hx.ofRaw.1]
          exact hK _ _ (hr.fin o (.raw _ rfl rfl)) h
        · exact h.elim
  case field t x f =>
    have hx := hr.ev x
    split at h
    · rename_i cs he
      rw [he] at hx
      obtain ⟨vs, hv, hc⟩ := hx.ofAgg
      rw [hv]
      simp only
      split at h
      · rename_i pp hf
        obtain ⟨v, hv2, hk, hrp⟩ := fld_rep hc hf
        have hv2' : fldV E.er.P t f vs = some v := hv2
        rw [hv2']
        simp only [hrp.plain hk, cond_true]
        exact hK _ _ (hr.fin o hrp) h
      · exact h.elim
    · exact h.elim
  case indexAddr t x i =>
    have hx := hr.ev x
    have hi := hr.ev i
    split at h
    · rename_i e sz fl rows k j hu he hj
      have hu' : E.er.P.underlying t = some (.slice e) := hu
      rw [he] at hx
      rw [hj] at hi
      obtain ⟨hc, g1, row, hrow, h⟩ := bif_elim h
      simp only [Bool.and_eq_true, beq_iff] at hc
      have hc1 : (E.er.P.info? e).isSome = true := hc.1
      cases hvx : ev s.σ x with
      | slice a n c =>
        rw [hvx] at hx
        rw [hu', hi.ofRaw.1]
        simp only [hc1, cond_true]
        cases hx with
        | list _ _ _ _ _ _ b of C g hn hcc hs hrr ha hg hk hp hf =>
          have hlt : j.toNat < n := by rw [← hn]; exact (List.getElem?_eq_some_iff.1 hrow).1
          obtain ⟨ea, ez⟩ := ha (by omega)
          subst ea
          refine ⟨g1, by omega, hK _ _ (hr.fin o ?_) h⟩
          have hsz : sz = E.er.P.cellsOf e := hc.2
          have hrl : row.length = sz := hrr row (List.mem_of_getElem? hrow)
          have := Rep.fptr (Z := Z) row 0 b (of + j.toNat * sz) C (fun jj => g j.toNat jj) ez (fun jj hjj => hg _ _ hlt (by omega)) (fun jj pp hpp => hk _ _ _ _ hrow hpp) (fun jj pp hpp => hp _ _ _ _ hrow hpp)
          rw [← hsz]
          exact this
      | _ => rw [hvx] at hx; cases hx
    · rename_i e a len cap k j hu he hj
      have hu' : E.er.P.underlying t = some (.slice e) := hu
      rw [he] at hx
      rw [hj] at hi
      obtain ⟨hc, h⟩ := bif_elim h
      have hc1 : (E.er.P.info? e).isSome = true := hc
      rw [hu', hx.ofRaw.1, hi.ofRaw.1]
      simp only [hc1, cond_true]
      obtain ⟨b, off, rfl, h1, h2, h⟩ := withSl_elim h
      exact ⟨h1, h2, hK _ _ (hr.fin o (.raw _ rfl rfl)) h⟩
    · rename_i len e k off k' j hu he hj
      have hu' : E.er.P.underlying t = some (.array len e) := hu
      rw [he] at hx
      rw [hj] at hi
      obtain ⟨hc, h⟩ := bif_elim h
      have hc1 : (decide (0 ≤ j) && decide (j < len) && (E.er.P.info? e).isSome) = true := hc
      rw [hu', hx.ofBox, hi.ofRaw.1]
      simp only [hc1, cond_true]
      exact hK _ _ (hr.fin o (.box k _)) h
    · exact h.elim
  case index t x i =>
    have hx := hr.ev x
    have hi := hr.ev i
    split at h
    · rename_i st k j hu he hj
      have hu' : E.er.P.underlying t = some .string := hu
      rw [he] at hx; rw [hj] at hi
      rw [hu', hx.ofRaw.1, hi.ofRaw.1]
      obtain ⟨h1, c, hc, h⟩ := h
      exact ⟨h1, c, hc, hK _ _ (hr.fin o (.raw _ rfl rfl)) h⟩
    · rename_i len e cs k j hu he hj
      have hu' : E.er.P.underlying t = some (.array len e) := hu
      rw [he] at hx; rw [hj] at hi
      obtain ⟨ds, hds, hc⟩ := hx.ofAgg
      rw [hu', hds, hi.ofRaw.1]
      obtain ⟨hin, h1, h2, h⟩ := bif_elim h
      obtain ⟨q, hq, ⟨hel, h⟩, _⟩ := exVP_elim (Z := Z) h
      obtain ⟨v, hv, hok, hrv⟩ := elt_rep hc hel
      exact ⟨h1, h2, hin, v, hv, hrv.plain hok, hK _ _ (hr.fin o hrv) h⟩
    · exact h.elim
  case extract x i =>
    have hx := hr.ev x
    split at h
    · rename_i vs he
      rw [he] at hx
      obtain ⟨ws, hv, hs⟩ := hx.ofTup
      rw [hv]
      simp only
      split at h
      · rename_i pp hp
        obtain ⟨hk, h⟩ := bif_elim h
        obtain ⟨w, hw, _, hrw⟩ := hs.get hp
        have hw' : ws.toArray[i]? = some w := by simpa using hw
        rw [hw']
        simp only [hrw.plain hk, cond_true]
        exact hK _ _ (hr.fin o hrw) h
      · exact h.elim
    · exact h.elim
  case call c =>
    obtain ⟨cal, args, ats⟩ := c
    cases cal with
    | value f => cases htk
    | invoke x n => cases htk
    | builtin b =>
      simp only at h htk ⊢
      unfold V1b at h
      unfold W1b
      generalize args.toList = al at h ⊢
      generalize ats.toList = tl at h ⊢
      cases b <;> first | (cases htk; done) | skip
      case len =>
        match al, tl, h with
        | [x], [t], h =>
          have hx := hr.ev x
          simp only at h ⊢
          split at h
          · rename_i e sz fl rows hu he
            have hu' : E.er.P.underlying t = some (.slice e) := hu
            rw [he] at hx
            obtain ⟨a, n, c, hv, hn, _⟩ := hx.ofList
            rw [hu', hv, ← hn]
            exact hK _ _ (hr.fin o (.raw _ rfl rfl)) h
          · rename_i e a n c hu he
            have hu' : E.er.P.underlying t = some (.slice e) := hu
            rw [he] at hx
            rw [hu', hx.ofRaw.1]
            exact hK _ _ (hr.fin o (.raw _ rfl rfl)) h
          · rename_i st hu he
            have hu' : E.er.P.underlying t = some .string := hu
            rw [he] at hx
            rw [hu', hx.ofRaw.1]
            exact hK _ _ (hr.fin o (.raw _ rfl rfl)) h
          · rename_i n e hu
            have hu' : E.er.P.underlying t = some (.array n e) := hu
            obtain ⟨hk, h⟩ := bif_elim h
            rw [hu']
            simp only [hx.plain hk, cond_true]
            exact hK _ _ (hr.fin o (.raw _ rfl rfl)) h
          · exact h.elim
        | [], _, h => exact h.elim
        | [_], [], h => exact h.elim
        | [_], _ :: _ :: _, h => exact h.elim
        | _ :: _ :: _, _, h => exact h.elim
      case min =>
        simp only at h ⊢
        split at h
        · rename_i k i is he
          rw [ints_rep hr he]
          exact hK _ _ (hr.fin o (.raw _ rfl rfl)) h
        · exact h.elim
      case max =>
        simp only at h ⊢
        split at h
        · rename_i k i is he
          rw [ints_rep hr he]
          exact hK _ _ (hr.fin o (.raw _ rfl rfl)) h
        · exact h.elim

end Go.Eng

/-
  V is sound: memory.
-/
namespace Go.Eng
open Go.RowKit
set_option linter.unusedVariables false

theorem ObOk.go {Z Z' : Fz} {u u' : UW} {b : Nat} {o : Ob} (h : ObOk Z u b o) (hz : Z.le Z') (hb : Z' b = Z b) (hh : u'.heap[b]? = u.heap[b]?) : ObOk Z' u' b o := by
  cases o with
  | cells T cs =>
    obtain ⟨h1, A, h2, h3⟩ := h
    exact ⟨by rw [hb]; exact h1, A, by rw [hh]; exact h2, h3.mono hz⟩
  | tip n m =>
    obtain ⟨⟨C, h1, h2⟩, A, T, h3, h4⟩ := h
    exact ⟨⟨C, by rw [hb]; exact h1, h2⟩, A, T, by rw [hh]; exact h3, h4⟩
  | obj o F S => exact ⟨by rw [hb]; exact h.1, by rw [hh]; exact h.2.1, fun t => (h.2.2 t).mono hz⟩
  | ro T cs =>
    obtain ⟨h1, A, h2, h3⟩ := h
    exact ⟨by rw [hb]; exact h1, A, by rw [hh]; exact h2, h3.mono hz⟩

theorem Good.go {Z Z' : Fz} {u u' : UW} {μ μ' : Mem} (h : Good Z u μ) (hz : Z.le Z')
    (hzok : ∀ b C, Z' b = some C → (Z b = some C ∧ u'.heap[b]? = u.heap[b]?) ∨ ∃ A T f, u'.heap[b]? = some (.cells A T f) ∧ C <+: A.toList)
    (hmem : ∀ b o, μ' b = some o → (μ b = some o ∧ u'.heap[b]? = u.heap[b]? ∧ (u.pub b → u'.pub b) ∧ Z' b = Z b) ∨ ((o.rw = true → u'.pub b) ∧ ObOk Z' u' b o)) : Good Z' u' μ' := by
  refine ⟨fun b C hb => ?_, fun b o hb => ?_⟩
  · rcases hzok b C hb with ⟨h1, h2⟩ | h1
    · rw [h2]; exact h.zok b C h1
    · exact h1
  · rcases hmem b o hb with ⟨h1, h2, h3, h4⟩ | h1
    · obtain ⟨g1, g2⟩ := h.mem b o h1
      exact ⟨fun hr => h3 (g1 hr), g2.go hz h4 h2⟩
    · exact h1

def Fz.set (Z : Fz) (b : Nat) (C : List Value) : Fz := fun c => if c = b then some C else Z c
theorem Fz.set_same (Z : Fz) (b : Nat) (C : List Value) : Z.set b C b = some C := by simp [Fz.set]
theorem Fz.set_ne (Z : Fz) {b c : Nat} (C : List Value) (h : c ≠ b) : Z.set b C c = Z c := by simp [Fz.set, h]
theorem Fz.set_le {Z : Fz} {b : Nat} {C : List Value} (h : ∀ D, Z b = some D → D <+: C) : Z.le (Z.set b C) := fun c D hD => by
  by_cases e : c = b
  · subst e; exact ⟨C, Fz.set_same _ _ _, h D hD⟩
  · exact ⟨D, by rw [Fz.set_ne _ _ e]; exact hD, List.prefix_refl _⟩

theorem Good.newZ {Z : Fz} {u : UW} {μ : Mem} (h : Good Z u μ) {b : Nat} (hb : u.heap.size ≤ b) : Z b = none := by
  cases hz : Z b with
  | none => rfl
  | some C => have := h.ltZ (b := b) (by rw [hz]; simp); omega
theorem Good.newM {Z : Fz} {u : UW} {μ : Mem} (h : Good Z u μ) {b : Nat} (hb : u.heap.size ≤ b) : μ b = none := by
  cases hz : μ b with
  | none => rfl
  | some C => have := h.ltM (b := b) (by rw [hz]; simp); omega

/-- A new block of one's own. -/
theorem Good.born {Z : Fz} {u : UW} {μ : Mem} (h : Good Z u μ) {b : Nat} {w' : World} {A : Array Value} {T : TypeId} (hB : Born u.toWorld w' b (.cells A T (0, 0))) {cs : List PV} (hc : RepM Z cs A.toList) :
    Good Z (u.born b w') (μ.set b (some (.cells T cs))) ∧ Ext Z μ u.heap.size Z (μ.set b (some (.cells T cs))) ∧ μ b = none := by
  have hge : u.heap.size ≤ b := hB.ge
  have keep : ∀ c, c < u.heap.size → (u.born b w').heap[c]? = u.heap[c]? := fun c hc => hB.below.block c hc
  refine ⟨h.go (Fz.le.refl Z) (fun c C hC => .inl ⟨hC, keep c (h.ltZ (by rw [hC]; simp))⟩) (fun c o ho => ?_), ⟨Fz.le.refl Z, fun _ _ h _ => h, fun _ h => .inl h, fun c hc => ?_, fun _ h' => h.ltZ h'⟩, h.newM hge⟩
  · by_cases e : c = b
    · subst e
      rw [Mem.set_same] at ho
      cases ho
      exact .inr ⟨fun _ => .inr rfl, h.newZ hge, A, hB.at_, hc⟩
    · rw [Mem.set_ne _ _ e] at ho
      exact .inl ⟨ho, keep c (h.ltM (by rw [ho]; simp)), fun hp => .inl hp, rfl⟩
  · by_cases e : c = b
    · exact .inr (by omega)
    · rw [Mem.set_ne _ _ e] at hc; exact .inl hc

/-- A new block that is frozen. -/
theorem Good.bornF {Z : Fz} {u : UW} {μ : Mem} (h : Good Z u μ) {b : Nat} {w' : World} {A : Array Value} {T : TypeId} (hB : Born u.toWorld w' b (.cells A T (0, 0))) :
    Good (Z.set b A.toList) (u.born b w') μ ∧ Ext Z μ u.heap.size (Z.set b A.toList) μ := by
  have hge : u.heap.size ≤ b := hB.ge
  have keep : ∀ c, c < u.heap.size → (u.born b w').heap[c]? = u.heap[c]? := fun c hc => hB.below.block c hc
  have hle : Z.le (Z.set b A.toList) := Fz.set_le fun D hD => by rw [h.newZ hge] at hD; cases hD
  refine ⟨h.go hle (fun c C hC => ?_) (fun c o ho => ?_), ⟨hle, fun c C hC _ => ?_, fun c hc => ?_, fun _ h => .inl h, fun _ h' => h.ltZ h'⟩⟩
  · by_cases e : c = b
    · subst e
      rw [Fz.set_same] at hC; cases hC
      exact .inr ⟨A, T, _, hB.at_, List.prefix_refl _⟩
    · rw [Fz.set_ne _ _ e] at hC
      exact .inl ⟨hC, keep c (h.ltZ (by rw [hC]; simp))⟩
  · have hl := h.ltM (b := c) (by rw [ho]; simp)
    exact .inl ⟨ho, keep c hl, fun hp => .inl hp, Fz.set_ne _ _ (by omega)⟩
  · have hl := h.ltZ (b := c) (by rw [hC]; simp)
    rw [Fz.set_ne _ _ (by omega)]; exact hC
  · by_cases e : c = b
    · exact .inr (.inr (by omega))
    · rw [Fz.set_ne _ _ e] at hc; exact .inl hc

/-- A new block that may be gone on with. -/
theorem Good.bornT {Z : Fz} {u : UW} {μ : Mem} (h : Good Z u μ) {b : Nat} {w' : World} {A : Array Value} {T : TypeId} (hB : Born u.toWorld w' b (.cells A T (0, 0))) {C : List Value} (hp : C <+: A.toList) {m : Nat} (hm : m ≤ A.size) :
    Good (Z.set b C) (u.born b w') (μ.set b (some (.tip C.length m))) ∧ Ext Z μ u.heap.size (Z.set b C) (μ.set b (some (.tip C.length m))) ∧ μ b = none := by
  have hge : u.heap.size ≤ b := hB.ge
  have keep : ∀ c, c < u.heap.size → (u.born b w').heap[c]? = u.heap[c]? := fun c hc => hB.below.block c hc
  have hle : Z.le (Z.set b C) := Fz.set_le fun D hD => by rw [h.newZ hge] at hD; cases hD
  refine ⟨h.go hle (fun c C' hC => ?_) (fun c o ho => ?_), ⟨hle, fun c C' hC _ => ?_, fun c hc => ?_, fun c hc => ?_, fun _ h' => h.ltZ h'⟩, h.newM hge⟩
  · by_cases e : c = b
    · subst e
      rw [Fz.set_same] at hC; cases hC
      exact .inr ⟨A, T, _, hB.at_, hp⟩
    · rw [Fz.set_ne _ _ e] at hC
      exact .inl ⟨hC, keep c (h.ltZ (by rw [hC]; simp))⟩
  · by_cases e : c = b
    · subst e
      rw [Mem.set_same] at ho; cases ho
      exact .inr ⟨fun _ => .inr rfl, ⟨C, Fz.set_same _ _ _, rfl⟩, A, T, hB.at_, hm⟩
    · rw [Mem.set_ne _ _ e] at ho
      exact .inl ⟨ho, keep c (h.ltM (by rw [ho]; simp)), fun hp => .inl hp, Fz.set_ne _ _ e⟩
  · have hl := h.ltZ (b := c) (by rw [hC]; simp)
    rw [Fz.set_ne _ _ (by omega)]; exact hC
  · by_cases e : c = b
    · exact .inr (.inr (by omega))
    · rw [Fz.set_ne _ _ e] at hc; exact .inl hc
  · by_cases e : c = b
    · exact .inr (by omega)
    · rw [Mem.set_ne _ _ e] at hc; exact .inl hc

theorem RepM.take {Z : Fz} {ps : List PV} {vs : List Value} (h : RepM Z ps vs) (n : Nat) : RepM Z (ps.take n) (vs.take n) :=
  ⟨by simp [h.1], fun i p v a b => by
    rw [List.getElem?_take] at a b
    split at a
    · rename_i hi; rw [if_pos hi] at b; exact h.2 i p v a b
    · cases a⟩
theorem RepM.drop {Z : Fz} {ps : List PV} {vs : List Value} (h : RepM Z ps vs) (n : Nat) : RepM Z (ps.drop n) (vs.drop n) :=
  ⟨by simp [h.1], fun i p v a b => by rw [List.getElem?_drop] at a b; exact h.2 _ p v a b⟩
theorem RepM.append {Z : Fz} {ps qs : List PV} {vs ws : List Value} (h : RepM Z ps vs) (k : RepM Z qs ws) : RepM Z (ps ++ qs) (vs ++ ws) := by
  induction ps generalizing vs with
  | nil => rw [h.inv0]; exact k
  | cons p ps ih => obtain ⟨v, vs', rfl, h1, h2⟩ := h.inv; exact RepM.cons h1 (ih h2)

theorem wrL_rep {Z : Fz} {cs ps : List PV} {A : Array Value} {vs : List Value} {o : Nat} (h : RepM Z cs A.toList) (k : RepM Z ps vs) (hl : o + ps.length ≤ cs.length) : RepM Z (wrL cs o ps) (wrA A o vs).toList := by
  have hA : A.size = cs.length := by have := h.1; simpa using this
  rw [wrA_list _ _ _ (by rw [k.1, hA]; exact hl)]
  unfold wrL
  rw [k.1]
  exact ((h.take _).append k).append (h.drop _)

/-- Cells of one's own are written. -/
theorem Good.store {Z : Fz} {u : UW} {μ : Mem} (h : Good Z u μ) {b o : Nat} {T : TypeId} {cs ps : List PV} {vs : List Value} (hm : μ b = some (.cells T cs)) (hl : o + ps.length ≤ cs.length) (hv : RepM Z ps vs) {K : UW → Prop}
    (hK : ∀ w', Sto u.toWorld w' b (.cells (wrA ((u.heap[b]?.bind fun o => match o with | .cells A _ _ => some A | _ => none).getD #[]) o vs) T (0, 0)) → Good Z (u.sto w') (μ.set b (some (.cells T (wrL cs o ps)))) → Ext Z μ u.heap.size Z (μ.set b (some (.cells T (wrL cs o ps)))) → K (u.sto w')) : cStore b o vs u K := by
  obtain ⟨hp, hz, A, hA, hc⟩ := h.mem b _ hm
  have hp := hp rfl
  have hAs : A.size = cs.length := by have := hc.1; simpa using this
  refine ⟨A, T, hA, by rw [hv.1, hAs]; exact hl, hp, fun w' hs => ?_⟩
  have hA' : (u.heap[b]?.bind fun o => match o with | .cells A _ _ => some A | _ => none).getD #[] = A := by rw [hA]; rfl
  refine hK w' (by rw [hA']; exact hs) (h.go (Fz.le.refl Z) (fun c C hC => ?_) (fun c ob ho => ?_)) ⟨Fz.le.refl Z, fun _ _ h _ => h, fun _ h => .inl h, fun c hc => ?_, fun _ h' => h.ltZ h'⟩
  · have hl := h.ltZ (b := c) (by rw [hC]; simp)
    have hne : c ≠ b := by rintro rfl; rw [hz] at hC; cases hC
    exact .inl ⟨hC, hs.ne c hne hl⟩
  · by_cases e : c = b
    · subst e
      rw [Mem.set_same] at ho; cases ho
      exact .inr ⟨fun _ => hp, hz, _, hs.at_, wrL_rep hc hv hl⟩
    · rw [Mem.set_ne _ _ e] at ho
      have hl := h.ltM (b := c) (by rw [ho]; simp)
      exact .inl ⟨ho, hs.ne c e hl, fun hp => hp, rfl⟩
  · by_cases e : c = b
    · subst e; exact .inl (by rw [hm]; simp)
    · rw [Mem.set_ne _ _ e] at hc; exact .inl hc

/-- A block is gone on with in its place. -/
theorem Good.grow {Z : Fz} {u : UW} {μ : Mem} (h : Good Z u μ) {b n m : Nat} {new : List Value} (hm : μ b = some (.tip n m)) (hl : n + new.length ≤ m) {K : UW → Prop}
    (hK : ∀ w' C, Z b = some C → C.length = n → Good (Z.set b (C ++ new)) (u.sto w') (μ.set b (some (.tip (n + new.length) m))) → Ext Z μ u.heap.size (Z.set b (C ++ new)) (μ.set b (some (.tip (n + new.length) m))) → u.heap.size ≤ w'.heap.size → Wf (u.sto w') → K (u.sto w')) (hw : Wf u) : cStore b n new u K := by
  obtain ⟨hp, ⟨C, hz, hC⟩, A, T, hA, hmA⟩ := h.mem b _ hm
  have hp := hp rfl
  obtain ⟨A', T', f', hA', hpre⟩ := h.zok b C hz
  rw [hA] at hA'
  simp only [Option.some.injEq, Obj.cells.injEq] at hA'
  obtain ⟨rfl, rfl, rfl⟩ := hA'
  refine ⟨A, T, hA, by omega, hp, fun w' hs => ?_⟩
  have hwl : (wrA A n new).toList = A.toList.take n ++ new ++ A.toList.drop (n + new.length) := wrA_list _ _ _ (by omega)
  have htk : A.toList.take n = C := by
    obtain ⟨t, ht⟩ := hpre
    rw [← ht, ← hC, List.take_left]
  have hle : Z.le (Z.set b (C ++ new)) := Fz.set_le fun D hD => by rw [hz] at hD; cases hD; exact List.prefix_append _ _
  refine hK w' C hz hC (h.go hle (fun c C' hC' => ?_) (fun c ob ho => ?_)) ⟨hle, fun c C' hC' hn => ?_, fun c hc => ?_, fun c hc => ?_, fun _ h' => h.ltZ h'⟩ hs.size (hw.sto hs)
  · by_cases e : c = b
    · subst e
      rw [Fz.set_same] at hC'; cases hC'
      refine .inr ⟨_, _, _, hs.at_, ?_⟩
      rw [hwl, htk]
      exact List.prefix_append _ _
    · rw [Fz.set_ne _ _ e] at hC'
      exact .inl ⟨hC', hs.ne c e (h.ltZ (by rw [hC']; simp))⟩
  · by_cases e : c = b
    · subst e
      rw [Mem.set_same] at ho; cases ho
      exact .inr ⟨fun _ => hp, ⟨_, Fz.set_same _ _ _, by simp [hC]⟩, _, _, hs.at_, by rw [wrA_size]; exact hmA⟩
    · rw [Mem.set_ne _ _ e] at ho
      exact .inl ⟨ho, hs.ne c e (h.ltM (by rw [ho]; simp)), fun hp => hp, Fz.set_ne _ _ e⟩
  · have hne : c ≠ b := by rintro rfl; rw [hm] at hn; cases hn
    rw [Fz.set_ne _ _ hne]; exact hC'
  · by_cases e : c = b
    · subst e; exact .inr (.inl (by rw [hm]; simp))
    · rw [Fz.set_ne _ _ e] at hc; exact .inl hc
  · by_cases e : c = b
    · subst e; exact .inl (by rw [hm]; simp)
    · rw [Mem.set_ne _ _ e] at hc; exact .inl hc

/-! ### lists and cells -/
theorem flatIdx {α : Type} {sz : Nat} (h0 : 0 < sz) : ∀ {rows : List (List α)}, (∀ r ∈ rows, r.length = sz) → ∀ k : Nat, rows.flatten[k]? = (rows[k / sz]?).bind fun r => r[k % sz]?
  | [], _, k => by simp
  | r :: rows, h, k => by
    have hr : r.length = sz := h r (by simp)
    rw [List.flatten_cons]
    by_cases hk : k < sz
    · rw [List.getElem?_append_left (by omega), Nat.div_eq_of_lt hk, Nat.mod_eq_of_lt hk]; simp
    · rw [List.getElem?_append_right (by omega), flatIdx h0 (fun r' hr' => h r' (by simp [hr'])) (k - r.length), hr]
      have e1 : k / sz = (k - sz) / sz + 1 := by
        have : k = (k - sz) + sz := by omega
        rw [this, Nat.add_div_right _ h0]; simp
      have e2 : k % sz = (k - sz) % sz := by
        have : k = (k - sz) + sz := by omega
        rw [this, Nat.add_mod_right]; simp
      rw [e1, e2, List.getElem?_cons_succ]

theorem flatLen {α : Type} {sz : Nat} : ∀ {rows : List (List α)}, (∀ r ∈ rows, r.length = sz) → rows.flatten.length = rows.length * sz
  | [], _ => by simp
  | r :: rows, h => by
    rw [List.flatten_cons, List.length_append, flatLen fun r' hr' => h r' (by simp [hr']), h r (by simp), List.length_cons, Nat.add_mul, Nat.one_mul, Nat.add_comm]

/-- A frozen run of cells is a list. -/
theorem rep_list {Z : Fz} {sz : Nat} {fl : Fl} {rows : List (List PV)} {vs : List Value} {b o c : Nat} {C : List Value} (hr : ∀ r ∈ rows, r.length = sz) (hv : RepC Z rows.flatten vs) (hz : Z b = some C) (hC : ∀ k, k < vs.length → C[o + k]? = vs[k]?) (hc : rows.length ≤ c)
    (hf : FlOk fl (some ⟨b, o, none⟩) rows.length c) : Rep Z (.list sz fl rows) (.slice (some ⟨b, o, none⟩) rows.length c) := by
  have hlen : vs.length = rows.length * sz := by rw [hv.1, flatLen hr]
  have idx : ∀ i j, i < rows.length → j < sz → i * sz + j < vs.length := fun i j hi hj => by
    rw [hlen]
    calc i * sz + j < i * sz + sz := by omega
      _ = (i + 1) * sz := by rw [Nat.add_mul, Nat.one_mul]
      _ ≤ rows.length * sz := Nat.mul_le_mul_right _ (by omega)
  have flat : ∀ (i j : Nat) row p, rows[i]? = some row → row[j]? = some p → rows.flatten[i * sz + j]? = some p := fun i j row p hi hj => by
    have hj' : j < sz := by
      have := (List.getElem?_eq_some_iff.1 hj).1
      rw [hr row (List.mem_of_getElem? hi)] at this; exact this
    have h0 : 0 < sz := by omega
    rw [flatIdx h0 hr]
    have e1 : (i * sz + j) / sz = i := by
      rw [Nat.mul_comm, Nat.mul_add_div h0, Nat.div_eq_of_lt hj', Nat.add_zero]
    have e2 : (i * sz + j) % sz = j := by rw [Nat.mul_comm, Nat.mul_add_mod, Nat.mod_eq_of_lt hj']
    rw [e1, e2, hi]; exact hj
  have cells : ∀ (i j : Nat) row p, rows[i]? = some row → row[j]? = some p → ∃ v, vs[i * sz + j]? = some v ∧ p.cell = true ∧ Rep Z p v := fun i j row p hi hj => hv.get (flat i j row p hi hj)
  refine .list sz fl rows _ _ c b o C (fun i j => (vs[i * sz + j]?).getD undef) rfl hc (.inr fun x h => by cases h; rfl) hr (fun _ => ⟨rfl, hz⟩) (fun i j hi hj => ?_) (fun i j row p hi hj => ?_) (fun i j row p hi hj => ?_) hf
  · have hlt := idx i j hi hj
    rw [Nat.add_assoc, hC _ hlt, List.getElem?_eq_getElem hlt]; rfl
  · obtain ⟨v, _, h, _⟩ := cells i j row p hi hj; exact h
  · obtain ⟨v, h1, _, h2⟩ := cells i j row p hi hj
    simp only [h1]; exact h2

/-- A list's cells. -/
theorem list_cells {Z : Fz} {u : UW} {μ : Mem} (hg : Good Z u μ) {sz : Nat} {fl : Fl} {rows : List (List PV)} {a : Option Addr} {n c : Nat} (h : Rep Z (.list sz fl rows) (.slice a n c)) (hne : rows ≠ [] → sz ≠ 0) :
    ∃ vs, RepC Z rows.flatten vs ∧ vs.length = n * sz ∧ (n = 0 → vs = []) ∧ (n ≠ 0 → ∃ b o C, a = some ⟨b, o, none⟩ ∧ Z b = some C ∧ rd u.heap b o (n * sz) = some vs ∧ vs = (C.drop o).take (n * sz)) := by
  cases h with
  | list _ _ _ _ _ _ b o C g hn hc hs hr ha hgg hk hp hf =>
    by_cases h0 : n = 0
    · have : rows = [] := List.eq_nil_of_length_eq_zero (by omega)
      subst this
      exact ⟨[], RepC.nil Z, by simp [h0], fun _ => rfl, fun h => absurd h0 h⟩
    · obtain ⟨ea, ez⟩ := ha h0
      obtain ⟨A, T, f, hA, hpre⟩ := hg.zok b C ez
      have hs0 : sz ≠ 0 := hne (by rintro rfl; simp at hn; omega)
      · have h0' : 0 < sz := by omega
        have hlast := hgg (n - 1) (sz - 1) (by omega) (by omega)
        have hCl : o + n * sz ≤ C.length := by
          have hlt := (List.getElem?_eq_some_iff.1 hlast).1
          have e : (n - 1) * sz + sz = n * sz := by rw [← Nat.succ_mul]; congr 1; omega
          omega
        have hvl : ((C.drop o).take (n * sz)).length = n * sz := by simp; omega
        refine ⟨(C.drop o).take (n * sz), ⟨by rw [hvl, flatLen hr, hn], fun k p v hp' hv => ?_⟩, hvl, fun h => absurd h h0, fun _ => ⟨b, o, C, ea, ez, ?_, rfl⟩⟩
        · rw [flatIdx h0' hr] at hp'
          cases hrow : rows[k / sz]? with
          | none => rw [hrow] at hp'; cases hp'
          | some row =>
            rw [hrow] at hp'
            simp only [Option.bind_some] at hp'
            have hi : k / sz < n := by rw [← hn]; exact (List.getElem?_eq_some_iff.1 hrow).1
            have hj : k % sz < sz := Nat.mod_lt _ h0'
            have hg2 := hgg (k / sz) (k % sz) hi hj
            have hkk : k / sz * sz + k % sz = k := by rw [Nat.mul_comm]; exact Nat.div_add_mod k sz
            rw [Nat.add_assoc, hkk] at hg2
            have hk' : k < n * sz := by
              have := (List.getElem?_eq_some_iff.1 hv).1; rw [hvl] at this; exact this
            rw [List.getElem?_take, if_pos hk', List.getElem?_drop, hg2] at hv
            cases hv
            exact ⟨hk _ _ _ _ hrow hp', hp _ _ _ _ hrow hp'⟩
        · obtain ⟨t, ht⟩ := hpre
          rw [rd_of hA (by have : A.size = C.length + t.length := by have := congrArg List.length ht; simpa using this.symm
                           omega), ← ht]
          congr 1
          rw [List.drop_append_of_le_length (by omega), List.take_append_of_le_length (by simp; omega)]

end Go.Eng

/-
  V is sound: operations with memory.
-/
namespace Go.Eng
open Go.RowKit
set_option linter.unusedVariables false

/-- What V's soundness hands on. -/
def Cont (q : Bool) (Z : Fz) (μ : Mem) (u : UW) (KP : PSt → Mem → Prop) (K : St → UW → Prop) : Prop :=
  ∀ (Z' : Fz) (p' : PSt) (μ' : Mem) (s' : St) (u' : UW), Rel2 Z' p' s' → Good Z' u' μ' → Wf u' → Ext Z μ u.heap.size Z' μ' → u.heap.size ≤ u'.heap.size → (q = true → Below u.heap.size u.toWorld u'.toWorld) → KP p' μ' → K s' u'

theorem allPlain_of {Z : Fz} {ps : List PV} {vs : List Value} (h : RepC Z ps vs) : allPlain vs = true := by
  refine List.all_eq_true.2 fun v hv => ?_
  obtain ⟨h1, h2⟩ := h.plains v hv
  simp [h1, h2]

theorem rdM_rep {Z : Fz} {u : UW} {μ : Mem} (hg : Good Z u μ) {b o n : Nat} {ps : List PV} (h : rdM μ b o n = some ps) : ∃ vs, rd u.heap b o n = some vs ∧ RepM Z ps vs := by
  unfold rdM at h
  split at h
  · rename_i T cs hm
    obtain ⟨_, _, A, hA, hc⟩ := hg.mem b _ hm
    have hAs : A.size = cs.length := by have := hc.1; simpa using this
    split at h
    · rename_i hl
      cases h
      exact ⟨_, rd_of hA (by omega), (hc.drop o).take n⟩
    · cases h
  · rename_i T cs hm
    obtain ⟨_, _, A, hA, hc⟩ := hg.mem b _ hm
    have hAs : A.size = cs.length := by have := hc.1; simpa using this
    split at h
    · rename_i hl
      cases h
      exact ⟨_, rd_of hA (by omega), (hc.drop o).take n⟩
    · cases h
  · cases h

theorem load_sound {E : EnvP} {q : Bool} {fz : List Nat} {o : Oper} {p : PSt} {s : St} {μ : Mem} {u : UW} {KP : PSt → Mem → Prop} {K : St → UW → Prop} {Z Zr : Fz} (hr : Rel2 Z p s) (hg : Good Zr u μ) (hz : Zr.le Z) (hf : frzLoad p o = false ∨ Good Z u μ)
    (hl : isLoadO o = true) (hK : ∀ p' s', Rel2 Z p' s' → KP p' μ → K s' u) (h : V1 E q fz o p μ KP) : W1 E.er fz o s u K := by
  unfold isLoadO at hl
  unfold V1 at h
  unfold W1
  simp only at h ⊢
  cases hop : o.op <;> simp only [hop] at h hl ⊢ <;> first | (cases hl; done) | skip
  rename_i t x
  cases hk : kindsV E.P (rawO E o) t with
  | none => rw [hk] at h; exact h.elim
  | some ks =>
    rw [hk] at h
    have hk' : kinds E.er.P t = some (ks.map KV.er) := kindsV_er hk
    rw [hk']
    simp only at h ⊢
    rw [List.length_map]
    have hx := hr.ev x
    split at h
    · rename_i k off he
      rw [he] at hx; rw [hx.ofBox]
      simp only
      rw [← hr.D]
      split at h
      · rename_i m hm
        rw [hm]
        simp only
        obtain ⟨hc, h⟩ := bif_elim h
        simp only [Bool.and_eq_true] at hc
        have hrep := (RepF.rdG (k := k) hr.slot ks.length off).c hc.2
        rw [hc.1, allPlain_of hrep]
        simp only [Bool.and_self, cond_true]
        exact hK _ _ (hr.fin o (mk_rep hrep)) h
      · exact h.elim
    · rename_i row off he
      have hg' : Good Z u μ := by
        rcases hf with hf | hf
        · unfold frzLoad at hf; simp only [hop, he] at hf; cases hf
        · exact hf
      rw [he] at hx
      obtain ⟨b, of, C, g, hv, hzb, hgg, hkk, hp⟩ := hx.ofFptr
      rw [hv]
      show withPtr (.pointer (some ⟨b, of + off, none⟩)) _
      unfold withPtr
      simp only
      obtain ⟨ps, hlen, hc, ⟨hrow, h⟩, hex⟩ := exLV_elim (Z := Z) h
      unfold rowM at hrow
      split at hrow
      · rename_i hb
        simp only [Option.some.injEq] at hrow
        obtain ⟨A, T, f, hA, hpre⟩ := hg'.zok b C hzb
        have hCl : of + row.length ≤ C.length := by
          have := hgg (row.length - 1) (by omega)
          have := (List.getElem?_eq_some_iff.1 this).1
          omega
        obtain ⟨tl, ht⟩ := hpre
        have hAl : A.size = C.length + tl.length := by have := congrArg List.length ht; simpa using this.symm
        have hrd := rd_of (H := u.heap) (o := of + off) (n := ks.length) hA (by omega)
        have hrep : RepC Z ps ((A.toList.drop (of + off)).take ks.length) := by
          rw [← hrow, ← ht]
          refine ⟨by simp; omega, fun i pp v hpp hvv => ?_⟩
          rw [List.getElem?_take] at hpp hvv
          split at hpp
          · rename_i hi
            rw [if_pos hi, List.getElem?_drop, List.getElem?_append_left (by omega)] at hvv
            rw [List.getElem?_drop] at hpp
            have := hgg (off + i) (by omega)
            rw [Nat.add_assoc] at hvv
            rw [this] at hvv
            cases hvv
            exact ⟨hkk _ _ hpp, hp _ _ hpp⟩
          · cases hpp
        exact hex (G := fun vs => rd u.heap b (of + off) ks.length = some vs ∧ K (fin o s (mkV (aggT E.er.P t) vs)) u) hrep.m ⟨hrd, hK _ _ (hr.fin o (mk_rep hrep)) h⟩
      · cases hrow
    · unfold withPtrP at h
      split at h
      · rename_i b off he
        rw [he] at hx
        rw [hx.ofRaw.1]
        show withPtr (.pointer (some ⟨b, off, none⟩)) _
        unfold withPtr
        simp only
        obtain ⟨ps, hlen, hc, ⟨hrd, h⟩, hex⟩ := exLV_elim (Z := Z) h
        obtain ⟨vs, hv, hm⟩ := rdM_rep hg hrd
        have hrep := (hm.mono hz).c hc
        exact hex (G := fun vs => rd u.heap b off ks.length = some vs ∧ K (fin o s (mkV (aggT E.er.P t) vs)) u) hrep.m ⟨hv, hK _ _ (hr.fin o (mk_rep hrep)) h⟩
      · exact h.elim

section
variable {E : EnvP} {q : Bool} {fz : List Nat} {o : Oper} {p : PSt} {s : St} {μ : Mem} {u : UW} {KP : PSt → Mem → Prop} {K : St → UW → Prop} {Z : Fz}

theorem born_below {b : Nat} {w' : World} {ob : Obj} (hB : Born u.toWorld w' b ob) : Below u.heap.size u.toWorld (u.born b w').toWorld := hB.below

theorem newB_sound (hr : Rel2 Z p s) (hg : Good Z u μ) (hw : Wf u) (hK : Cont q Z μ u KP K) {t : TypeId} {cs : List PV} {A : Array Value} (hA : RepC Z cs A.toList) (h : newB E q fz o p μ t cs KP) :
    (match o.dst with
      | none => False
      | some k => bif memN E.er.priv k then
          (bif !isBox s.D k && !memN fz k && allPlain A.toList && Nat.ble A.size 65536 then
            K { s with σ := wrG (upd s.σ k (fake k 0)) k 0 A.toList, D := (k, A.size) :: s.D } u else False)
        else ∀ (b : Nat) (w' : World), Born u.toWorld w' b (.cells A t (0, 0)) → K (fin o s (.pointer (some ⟨b, 0, none⟩))) (u.born b w')) := by
  unfold newB at h
  have hAs : A.size = cs.length := by have := hA.1; simpa using this
  cases hd : o.dst with
  | none => rw [hd] at h; exact h.elim
  | some k =>
    rw [hd] at h
    simp only at h ⊢
    cases hpv : memN E.priv k with
    | true =>
      have hpv' : memN E.er.priv k = true := hpv
      rw [hpv] at h; rw [hpv']
      simp only [cond_true] at h ⊢
      obtain ⟨hc, h⟩ := bif_elim h
      simp only [Bool.and_eq_true] at hc
      obtain ⟨hq, ⟨⟨h1, h2⟩, h3⟩, h4⟩ := hc
      have hc' : (!isBox s.D k && !memN fz k && allPlain A.toList && Nat.ble A.size 65536) = true := by
        rw [← hr.D, h1, h2, allPlain_of hA, hAs, h4]; rfl
      rw [hc']
      simp only [cond_true]
      refine hK Z { p with σ := wrGP (updP p.σ k (.box k 0)) k 0 cs, D := (k, cs.length) :: p.D } μ _ u ⟨?_, RepF.wrG (RepF.upd hr.slot (.box k 0)) hA.m⟩ hg hw hg.ext (Nat.le_refl _) (fun _ => Below.refl _ _) h
      simp [hr.D, hAs]
    | false =>
      have hpv' : memN E.er.priv k = false := hpv
      rw [hpv] at h; rw [hpv']
      simp only [cond_false] at h ⊢
      intro b w' hB
      cases hcst : memN E.cst k with
      | true =>
        rw [hcst] at h
        simp only [cond_true] at h
        obtain ⟨_, h⟩ := bif_elim h
        obtain ⟨g1, g2⟩ := hg.bornF hB
        refine hK _ _ μ _ _ ((hr.mono g2.le).fin o ?_) g1 (hw.born hB) g2 hB.below.size (fun _ => hB.below) h
        have hA' := (hA.mono g2.le).wk
        have hl : (cs.map wk1).length = A.toList.length := by simp [hAs]
        have := Rep.fptr (Z := Z.set b A.toList) (cs.map wk1) 0 b 0 A.toList (fun j => (A.toList[j]?).getD undef) (Fz.set_same _ _ _) (fun j hj => by
          rw [Nat.zero_add, List.getElem?_eq_getElem (by omega)]; rfl) (fun j pp hj => (hA'.get hj).choose_spec.2.1) (fun j pp hj => by
          obtain ⟨v, h1, h2, h3⟩ := hA'.get hj
          simp only [h1]; exact h3)
        exact this
      | false =>
        rw [hcst] at h
        simp only [cond_false] at h
        obtain ⟨g1, g2, g3⟩ := hg.born hB hA.m
        exact hK Z _ _ _ _ (hr.fin o (.raw _ rfl rfl)) g1 (hw.born hB) g2 hB.below.size (fun _ => hB.below) (h b g3)

theorem CallF.mono' {P : Program} {f : FuncId} {args : Array Value} {u : UW} {K K' : Value → UW → Prop} (h : CallF P f args u K)
    (hk : ∀ v lo w', Mod u.pub u.toWorld w' → u.heap.size ≤ lo → K v (u.ret lo w') → K' v (u.ret lo w')) : CallF P f args u K' := by
  obtain ⟨F, hF, h⟩ := h
  exact ⟨F, hF, h.mono fun v lo w' hm hl hK => hk v lo w' ⟨hm.os, hm.tape, hm.output, hm.size, fun b hb hn => hm.keep b hb fun hf => hn (hF b hf)⟩ hl hK⟩

theorem CallVP.v {P : Program} {f : PV} {args : List PV} {KP : PV → Mem → Prop} {fv : Value} {vs : List Value} (hg : Good Z u μ) (hw : Wf u) (hf : Rep Z f fv) (ha : Reps Z args vs) (h : CallVP P f args μ KP) :
    CallV P fv vs u fun v u' => ∃ Z' μ' p, Ext Z μ u.heap.size Z' μ' ∧ Good Z' u' μ' ∧ Rep Z' p v ∧ KP p μ' := by
  unfold CallVP at h
  split at h
  · rename_i g first caps
    obtain ⟨fv', cv', rfl, h1, h2⟩ := hf.ofFn
    obtain ⟨hc, hcall⟩ := h Z u (fv' ++ vs ++ cv') hg hw ((h1.append ha).append h2)
    show (bif callable P g then CallF P g (fv'.toArray.toList ++ vs ++ cv'.toArray.toList).toArray u _ else False)
    rw [hc]
    exact hcall
  · exact h Z u fv vs hg hw hf ha

/-- What a call hands on. -/
def ContV (q : Bool) (Z : Fz) (μ : Mem) (u : UW) (KP : PV → Mem → Prop) (K : Value → UW → Prop) : Prop :=
  ∀ (Z' : Fz) (μ' : Mem) (p : PV) (v : Value) (u' : UW), Ext Z μ u.heap.size Z' μ' → Good Z' u' μ' → Wf u' → u.heap.size ≤ u'.heap.size → (q = true → Below u.heap.size u.toWorld u'.toWorld) → Rep Z' p v → KP p μ' → K v u'

theorem CallQ.f {P : Program} {g : FuncId} {args : List PV} {KP : PV → Mem → Prop} {vs : List Value} {K : Value → UW → Prop} (hg : Good Z u μ) (hw : Wf u) (ha : Reps Z args vs) (h : CallQ P g args μ fun p μ' => KP p (μ.or μ')) (hK : ContV true Z μ u KP K) :
    callable P g = true ∧ CallF P g vs.toArray u K := by
  obtain ⟨hc, F, hF, hcall⟩ := h Z u vs hg hw ha
  refine ⟨hc, F, fun b hb => (hF b hb).elim, hcall.mono fun v lo w' hm hl hp => ?_⟩
  obtain ⟨Z', μ', p, e, g', hr, hk⟩ := hp
  have hB : Below u.heap.size u.toWorld w' := ⟨hm.os, hm.tape, hm.output, hm.size, fun b hb => hm.keep b hb fun hf => hF b hf⟩
  have hZ : ∀ b, b < u.heap.size → Z' b = Z b := fun b hb => by
    cases hz : Z b with
    | some C => exact e.zs b C hz rfl
    | none =>
      cases hz' : Z' b with
      | none => rfl
      | some C =>
        rcases e.zn b (by rw [hz']; simp) with h1 | h1 | h1
        · exact absurd hz h1
        · exact absurd rfl h1
        · omega
  refine hK Z' (μ.or μ') p v (u.ret lo w') ⟨e.le, fun b C h1 _ => e.zs b C h1 rfl, fun b h1 => ?_, fun b h1 => ?_, e.lt⟩ ⟨g'.zok, fun b ob hb => ?_⟩ (hw.ret hm.size) hm.size (fun _ => hB) hr hk
  · rcases e.zn b h1 with h2 | h2 | h2
    · exact .inl h2
    · exact absurd rfl h2
    · exact .inr (.inr h2)
  · unfold Mem.or at h1
    cases hm' : μ b with
    | some x => exact .inl (by simp)
    | none =>
      rw [hm'] at h1
      rcases e.mn b h1 with h2 | h2
      · exact absurd rfl h2
      · exact .inr h2
  · unfold Mem.or at hb
    cases hm' : μ b with
    | some x =>
      rw [hm'] at hb
      simp only [Option.some.injEq] at hb
      subst hb
      obtain ⟨p1, p2⟩ := hg.mem b x hm'
      exact ⟨fun hr => .inl (p1 hr), p2.go e.le (hZ b p2.lt) (hB.block b p2.lt)⟩
    | none =>
      rw [hm'] at hb
      obtain ⟨p1, p2⟩ := g'.mem b ob hb
      exact ⟨fun hr => (p1 hr).elim False.elim .inr, p2⟩

theorem CallD.v {P : Program} {f : PV} {args : List PV} {KP : PV → Mem → Prop} {fv : Value} {vs : List Value} {K : Value → UW → Prop} (hg : Good Z u μ) (hw : Wf u) (hf : Rep Z f fv) (ha : Reps Z args vs) (h : CallD P q f args μ KP) (hK : ContV q Z μ u KP K) : CallV P fv vs u K := by
  unfold CallD at h
  cases q with
  | false =>
    simp only [cond_false] at h
    refine (CallVP.v hg hw hf ha h).mono fun v lo w' hm hl hp => ?_
    obtain ⟨Z', μ', p, e, g', hr, hk⟩ := hp
    exact hK Z' μ' p v _ e g' (hw.ret hm.size) hm.size (fun h => by cases h) hr hk
  | true =>
    simp only [cond_true] at h
    split at h
    · rename_i g first caps
      obtain ⟨fv', cv', rfl, h1, h2⟩ := hf.ofFn
      obtain ⟨hc, hcall⟩ := CallQ.f hg hw ((h1.append ha).append h2) h hK
      show (bif callable P g then CallF P g (fv'.toArray.toList ++ vs ++ cv'.toArray.toList).toArray u K else False)
      rw [hc]
      exact hcall
    · exact h.elim

end
end Go.Eng

/-
  V is sound: append; one operation.
-/
namespace Go.Eng
open Go.RowKit
set_option linter.unusedVariables false

theorem okSz_cases {size sz : Nat} {rows : List (List PV)} (h : okSz size sz rows = true) : sz = size ∨ rows = [] := by
  unfold okSz at h
  cases hb : Nat.beq sz size with
  | true => exact .inl (beq_iff.1 hb)
  | false =>
    rw [hb] at h
    simp only [cond_false] at h
    split at h
    · exact .inr rfl
    · cases h

theorem Ext.sub {Z Z' : Fz} {μ μ' μ'' : Mem} {N : Nat} (h : Ext Z μ N Z' μ') (hs : μ''.sub μ') : Ext Z μ N Z' μ'' :=
  ⟨h.le, h.zs, h.zn, fun b hb => by
    cases hx : μ'' b with
    | none => exact absurd hx hb
    | some o => exact h.mn b (by rw [hs b o hx]; simp), h.lt⟩

theorem Rep.size {Z : Fz} {sz size : Nat} {fl : Fl} {rows : List (List PV)} {w : Value} (h : Rep Z (.list sz fl rows) w) (hs : okSz size sz rows = true) : Rep Z (.list size fl rows) w := by
  rcases okSz_cases hs with rfl | rfl
  · exact h
  · exact h.nilAny

theorem rowsLen {Z : Fz} {sz : Nat} {fl : Fl} {rows : List (List PV)} {w : Value} (h : Rep Z (.list sz fl rows) w) : ∀ r ∈ rows, r.length = sz := by
  cases h; assumption

theorem info_ti {P : Program} {e : TypeId} {size bytes zl : Nat} (h : (P.info? e).map (fun i => (i.size, i.bytes, i.zero.map fun z => z.cells.toList.length)) = some (size, bytes, some zl)) :
    ∃ zero : List Value, (P.info? e).map (fun i => (i.size, i.bytes, i.zero.map fun z => z.cells.toList)) = some (size, bytes, some zero) ∧ zero.length = zl := by
  cases hi : P.info? e with
  | none => rw [hi] at h; cases h
  | some i =>
    rw [hi] at h
    simp only [Option.map_some, Option.some.injEq, Prod.mk.injEq] at h
    obtain ⟨h1, h2, h3⟩ := h
    cases hz : i.zero with
    | none => rw [hz] at h3; cases h3
    | some z =>
      rw [hz] at h3
      simp only [Option.map_some, Option.some.injEq] at h3
      exact ⟨z.cells.toList, by simp [h1, h2, hz], h3⟩

section
variable {E : EnvP} {q : Bool} {fz : List Nat} {o : Oper} {p : PSt} {s : St} {μ : Mem} {u : UW} {KP : PSt → Mem → Prop} {K : St → UW → Prop} {Z : Fz}

theorem appL_sound {P : Program} {e : TypeId} {size bytes : Nat} {zero : List Value} {fl : Fl} {rows new : List (List PV)} {fy : Fl} {xa yb : Option Addr} {n cap m ycap : Nat} {KF : Fl → Mem → Prop} {KV : Value → UW → Prop} (hg : Good Z u μ) (hw : Wf u)
    (ht : (P.info? e).map (fun i => (i.size, i.bytes, i.zero.map fun z => z.cells.toList)) = some (size, bytes, some zero)) (hzl : zero.length = size) (hs0 : size ≠ 0)
    (hx : Rep Z (.list size fl rows) (.slice xa n cap)) (hy : Rep Z (.list size fy new) (.slice yb m ycap)) (h : appL q size bytes fl rows new μ KF)
    (hK : ∀ (Z' : Fz) (μ' : Mem) (fl' : Fl) (v : Value) (u' : UW), Ext Z μ u.heap.size Z' μ' → Good Z' u' μ' → Wf u' → u.heap.size ≤ u'.heap.size → (q = true → Below u.heap.size u.toWorld u'.toWorld) → Rep Z' (.list size fl' (rows ++ new)) v → KF fl' μ' → KV v u') :
    cApp P e xa n cap yb m u fun a n' c' u' => KV (.slice a n' c') u' := by
  obtain ⟨hby, h62, h⟩ := h
  obtain ⟨_, _, _, ex, hxn, hxc, hxs, hxf⟩ := hx.ofList
  cases ex
  obtain ⟨_, _, _, ey, hyn, hyc, hys, hyf⟩ := hy.ofList
  cases ey
  obtain ⟨vx, rx, lx, zx, nx⟩ := list_cells hg hx (fun _ => hs0)
  obtain ⟨vy, ry, ly, zy, ny⟩ := list_cells hg hy (fun _ => hs0)
  rw [hxn, hyn] at hby h62
  have hrow : ∀ r ∈ rows ++ new, r.length = size := fun r hr => (List.mem_append.1 hr).elim (rowsLen hx r) (rowsLen hy r)
  have hnew0 : new = [] ↔ m = 0 := by
    constructor
    · rintro rfl; simpa using hyn.symm
    · intro h0; exact List.eq_nil_of_length_eq_zero (by omega)
  refine ⟨size, bytes, zero, vx, vy, ht, zy, fun hm => ?_, zx, fun hn => ?_, hxc, hby, h62, hzl, fun v hv => (ry.plains v hv).2, fun hroom => ?_, fun hno => ?_⟩
  · obtain ⟨b, o, C, rfl, _, hr, _⟩ := ny hm; exact hr
  · obtain ⟨b, o, C, rfl, _, hr, _⟩ := nx hn; exact hr
  · by_cases hm : m = 0
    · left
      refine ⟨hm, ?_⟩
      have := hnew0.2 hm
      subst this
      exact hK Z μ fl _ u hg.ext hg hw (Nat.le_refl _) (fun _ => Below.refl _ _) (by rw [List.append_nil]; exact hx) h
    · right
      refine ⟨hm, ?_⟩
      have hne : new ≠ [] := fun e => hm (hnew0.1 e)
      have h : appF q size fl rows.length new.length μ KF := by
        unfold appN at h
        cases new with
        | nil => exact absurd rfl hne
        | cons r rs => exact h
      cases fl with
      | sh => exact h.elim
      | nr => have : cap = n := hxf; omega
      | nil => obtain ⟨_, h1, h2⟩ : xa = none ∧ n = 0 ∧ cap = 0 := hxf; omega
      | tip b c =>
        obtain ⟨rfl, rfl⟩ : xa = some ⟨b, 0, none⟩ ∧ cap = c := hxf
        cases q with
        | true => exact h.elim
        | false =>
          obtain ⟨hm0, h⟩ := h
          show cStore b (0 + n * size) vy u _
          rw [Nat.zero_add]
          rw [hxn] at hm0
          have hle : n * size + m * size ≤ cap * size := by rw [← Nat.add_mul]; exact Nat.mul_le_mul_right _ hroom
          refine hg.grow hm0 (by rw [ly]; exact hle) (fun w' C hC hCl g1 g2 hsz hwf => ?_) hw
          have hvx : vx = C := by
            by_cases hn0 : n = 0
            · rw [zx hn0]; exact (List.eq_nil_of_length_eq_zero (by rw [hCl, hn0]; simp)).symm
            · obtain ⟨b', o', C', e1, e2, _, e4⟩ := nx hn0
              simp only [Option.some.injEq, Addr.mk.injEq] at e1
              obtain ⟨rfl, rfl, _⟩ := e1
              rw [hC] at e2; cases e2
              rw [e4, List.drop_zero, ← hCl, List.take_length]
          have emem : (μ.set b none).set b (some (.tip ((rows.length + new.length) * size) (cap * size))) = μ.set b (some (.tip (n * size + vy.length) (cap * size))) := by
            funext x
            by_cases e : x = b
            · subst e; simp [hxn, hyn, ly, Nat.add_mul]
            · rw [Mem.set_ne _ _ e, Mem.set_ne _ _ e, Mem.set_ne _ _ e]
          have hk := h b cap (.inl rfl) (by rw [hxn, hyn]; exact hroom)
          rw [emem] at hk
          refine hK _ _ _ _ _ g2 g1 hwf hsz (fun h => by cases h) ?_ hk
          have hrl := rep_list (Z := Z.set b (C ++ vy)) (sz := size) (fl := .tip b cap) (rows := rows ++ new) (vs := vx ++ vy) (b := b) (o := 0) (c := cap) (C := C ++ vy) hrow (by rw [List.flatten_append]; exact (rx.mono g2.le).append (ry.mono g2.le)) (Fz.set_same _ _ _) (fun k _ => by rw [hvx, Nat.zero_add]) (by rw [List.length_append, hxn, hyn]; exact hroom) ⟨rfl, rfl⟩
          rw [List.length_append, hxn, hyn] at hrl
          exact hrl
  · intro c b rest w' hc hrl hB
    have hm : m ≠ 0 := by omega
    have hne : new ≠ [] := fun e => hm (hnew0.1 e)
    have h : appF q size fl rows.length new.length μ KF := by
      unfold appN at h
      cases new with
      | nil => exact absurd rfl hne
      | cons r rs => exact h
    have hlen : (vx ++ vy).length = (rows.length + new.length) * size := by rw [List.length_append, lx, ly, hxn, hyn, Nat.add_mul]
    obtain ⟨g1, g2, g3⟩ := hg.bornT hB (C := vx ++ vy) (List.prefix_append _ _) (m := c * size) (by
      simp only [List.size_toArray, List.length_append, lx, ly, hrl]
      rw [← Nat.add_mul, ← Nat.add_mul]; exact Nat.mul_le_mul_right _ (by omega))
    rw [hlen] at g1 g2
    have hrep : Rep (Z.set b (vx ++ vy)) (.list size (.tip b c) (rows ++ new)) (.slice (some ⟨b, 0, none⟩) (n + m) c) := by
      have hr := rep_list (Z := Z.set b (vx ++ vy)) (sz := size) (fl := .tip b c) (rows := rows ++ new) (vs := vx ++ vy) (b := b) (o := 0) (c := c) (C := vx ++ vy) hrow (by rw [List.flatten_append]; exact (rx.mono g2.le).append (ry.mono g2.le)) (Fz.set_same _ _ _) (fun k _ => by rw [Nat.zero_add]) (by rw [List.length_append, hxn, hyn]; exact hc) ⟨rfl, rfl⟩
      rw [List.length_append, hxn, hyn] at hr
      exact hr
    cases fl with
    | sh => exact h.elim
    | nr => exact hK _ _ _ _ _ g2 g1 (hw.born hB) hB.below.size (fun _ => hB.below) hrep (h b c g3 (by rw [hxn, hyn]; exact hc))
    | nil => exact hK _ _ _ _ _ g2 g1 (hw.born hB) hB.below.size (fun _ => hB.below) hrep (h b c g3 (by rw [hxn, hyn]; exact hc))
    | tip b0 c0 =>
      cases q with
      | true => exact h.elim
      | false =>
        obtain ⟨_, h⟩ := h
        have hsub : ((μ.set b0 none).set b (some (Ob.tip ((rows.length + new.length) * size) (c * size)))).sub (μ.set b (some (Ob.tip ((rows.length + new.length) * size) (c * size)))) := by
          intro x ob hx
          by_cases e : x = b
          · subst e; rw [Mem.set_same] at hx ⊢; exact hx
          · rw [Mem.set_ne _ _ e] at hx ⊢
            by_cases e' : x = b0
            · subst e'; rw [Mem.set_same] at hx; cases hx
            · rw [Mem.set_ne _ _ e'] at hx; exact hx
        exact hK _ _ _ _ _ (g2.sub hsub) (g1.sub hsub) (hw.born hB) hB.below.size (fun _ => hB.below) hrep (h b c (.inr g3) (by rw [hxn, hyn]; exact hc))

theorem appR_sound {P : Program} {e : TypeId} {size bytes : Nat} {zero : List Value} {y : PV} {xa yb : Option Addr} {n cap m ycap : Nat} {KR : Option Addr → Nat → Nat → Mem → Prop} {KV : Value → UW → Prop} (hg : Good Z u μ) (hw : Wf u)
    (ht : (P.info? e).map (fun i => (i.size, i.bytes, i.zero.map fun z => z.cells.toList)) = some (size, bytes, some zero)) (hzl : zero.length = size) (hs0 : size ≠ 0)
    (hy : Rep Z y (.slice yb m ycap)) (h : appR size bytes e xa n cap y μ KR)
    (hK : ∀ (μ' : Mem) (a' : Option Addr) (n' c' : Nat) (u' : UW), Ext Z μ u.heap.size Z μ' → Good Z u' μ' → Wf u' → u.heap.size ≤ u'.heap.size → KR a' n' c' μ' → KV (.slice a' n' c') u') :
    cApp P e xa n cap yb m u fun a n' c' u' => KV (.slice a n' c') u' := by
  unfold appR newC at h
  obtain ⟨vy, new, hnew, zy, ny, hby, h62, hnc, h, hvl⟩ : ∃ (vy : List Value) (new : List PV), RepM Z new vy ∧ (m = 0 → vy = []) ∧ (m ≠ 0 → withSl yb fun b o => rd u.heap b o (m * size) = some vy) ∧ (n + m) * bytes ≤ 140737488355328 ∧ n + m < 4611686018427387904 ∧ n ≤ cap ∧ ((m = 0 ∧ (n ≠ 0 → ∃ b o old, xa = some ⟨b, o, none⟩ ∧ rdM μ b o (n * size) = some old) ∧ KR xa n cap μ) ∨ (m ≠ 0 ∧ allCell new = true ∧
    (n + m ≤ cap → ∃ b o T cs, xa = some ⟨b, o, none⟩ ∧ μ b = some (.cells T cs) ∧ o + cap * size ≤ cs.length ∧ KR xa (n + m) cap (μ.set b (some (.cells T (wrL cs (o + n * size) new))))) ∧
    (cap < n + m → ∃ old, ((n = 0 ∧ old = []) ∨ ∃ b o, xa = some ⟨b, o, none⟩ ∧ rdM μ b o (n * size) = some old) ∧ ∀ b' c', μ b' = none → n + m ≤ c' → KR (some ⟨b', 0, none⟩) (n + m) c' (μ.set b' (some (.cells e (old ++ new ++ List.replicate ((c' - (n + m)) * size) .poison))))))) ∧ (m ≠ 0 → vy.length = m * size) := by
    split at h
    · rename_i sz fl rows
      obtain ⟨hsz, h⟩ := bif_elim h
      have hy' := hy.size hsz
      obtain ⟨_, _, _, ey, hyn, _⟩ := hy'.ofList
      cases ey
      rw [hyn] at h
      obtain ⟨vy, ry, ly, zy, ny⟩ := list_cells hg hy' (fun _ => hs0)
      exact ⟨vy, _, ry.m, zy, fun hm => by obtain ⟨b, o, C, rfl, _, hr, _⟩ := ny hm; exact hr, h.1, h.2.1, h.2.2.1, h.2.2.2, fun _ => ly⟩
    · rename_i b o m' c'
      have ev := hy.ofRaw.1
      simp only [Value.slice.injEq] at ev
      obtain ⟨rfl, rfl, rfl⟩ := ev
      obtain ⟨cs, hcs, h⟩ := h
      obtain ⟨vs, hv, hm⟩ := rdM_rep hg hcs
      have hvl := rd_len hv
      refine ⟨vs, cs, hm, fun h0 => ?_, fun _ => hv, h.1, h.2.1, h.2.2.1, h.2.2.2, fun _ => hvl⟩
      rw [h0] at hvl
      exact List.eq_nil_of_length_eq_zero (by simpa using hvl)
    · exact h.elim
  rcases h with ⟨hm, hold, hk⟩ | ⟨hm, hcell, hin, hout⟩
  · by_cases hn : n = 0
    · refine ⟨size, bytes, zero, [], vy, ht, zy, ny, fun _ => rfl, fun h => absurd hn h, hnc, hby, h62, hzl, fun v hv => ?_, fun _ => .inl ⟨hm, hK μ xa n cap u hg.ext hg hw (Nat.le_refl _) hk⟩, fun hlt => by omega⟩
      rw [zy hm] at hv; cases hv
    · obtain ⟨b, o, old, rfl, hrd⟩ := hold hn
      obtain ⟨vs, hv, _⟩ := rdM_rep hg hrd
      refine ⟨size, bytes, zero, vs, vy, ht, zy, ny, fun h => absurd h hn, fun _ => hv, hnc, hby, h62, hzl, fun v hv => ?_, fun _ => .inl ⟨hm, hK μ _ n cap u hg.ext hg hw (Nat.le_refl _) hk⟩, fun hlt => by omega⟩
      rw [zy hm] at hv; cases hv
  · have hc := hnew.c hcell
    have hvl := hvl hm
    have hnl : new.length = m * size := by rw [← hc.1, hvl]
    by_cases hroom : n + m ≤ cap
    · obtain ⟨b, o, T, cs, rfl, hmb, hsz, hk⟩ := hin hroom
      obtain ⟨hp, _, A, hA, hcA⟩ := hg.mem b _ hmb
      have hAs : A.size = cs.length := by have := hcA.1; simpa using this
      have hle : n * size + m * size ≤ cap * size := by rw [← Nat.add_mul]; exact Nat.mul_le_mul_right _ hroom
      refine ⟨size, bytes, zero, if n = 0 then [] else (A.toList.drop o).take (n * size), vy, ht, zy, ny, fun h => by simp [h], fun h => ?_, hnc, hby, h62, hzl, fun v hv => (hc.plains v hv).2, fun _ => .inr ⟨hm, ?_⟩, fun hlt => by omega⟩
      · rw [if_neg h]; exact rd_of hA (by omega)
      · exact hg.store hmb (by rw [hnl]; omega) hnew fun w' hs g1 g2 => hK _ _ _ _ _ g2 g1 (hw.sto hs) hs.size hk
    · obtain ⟨old, hold, hk⟩ := hout (by omega)
      have fin : ∀ vs : List Value, RepM Z old vs → vs.length = n * size → (n = 0 → vs = []) → (n ≠ 0 → withSl xa fun b o => rd u.heap b o (n * size) = some vs) → cApp P e xa n cap yb m u fun a n' c' u' => KV (.slice a n' c') u' := by
        intro vs hvs hvsl h0 h1
        refine ⟨size, bytes, zero, vs, vy, ht, zy, ny, h0, h1, hnc, hby, h62, hzl, fun v hv => (hc.plains v hv).2, fun h => absurd h hroom, fun _ c b rest w' hcc hrl hB => ?_⟩
        have hrest : RepM Z (List.replicate ((c - (n + m)) * size) .poison) rest := ⟨by simp [hrl], fun i p v hp _ => by
          rw [List.getElem?_replicate] at hp
          split at hp
          · cases hp; exact .poison _
          · cases hp⟩
        obtain ⟨g1, g2, g3⟩ := hg.born hB (cs := old ++ new ++ List.replicate ((c - (n + m)) * size) .poison) ((hvs.append hnew).append hrest)
        exact hK _ _ _ _ _ g2 g1 (hw.born hB) hB.below.size (hk b c g3 hcc)
      rcases hold with ⟨hn, rfl⟩ | ⟨b, o, rfl, hrd⟩
      · exact fin [] (RepM.nil Z) (by simp [hn]) (fun _ => rfl) (fun h => absurd hn h)
      · obtain ⟨vs, hv, hm'⟩ := rdM_rep hg hrd
        have hl := rd_len hv
        exact fin vs hm' hl (fun h0 => List.eq_nil_of_length_eq_zero (by rw [hl, h0]; simp)) (fun _ => hv)

theorem app_sound {P : Program} {e : TypeId} {x y : PV} {xa yb : Option Addr} {n cap m ycap : Nat} {KP : PV → Mem → Prop} {KV : Value → UW → Prop} (hg : Good Z u μ) (hw : Wf u) (hx : Rep Z x (.slice xa n cap)) (hy : Rep Z y (.slice yb m ycap)) (h : cAppP P q e x y μ KP) (hK : ContV q Z μ u KP KV) :
    cApp P e xa n cap yb m u fun a n' c' u' => KV (.slice a n' c') u' := by
  unfold cAppP at h
  split at h
  · rename_i size bytes zl hti
    obtain ⟨hc, h⟩ := bif_elim h
    simp only [Bool.and_eq_true, beq_iff, Bool.not_eq_true'] at hc
    obtain ⟨zero, ht, hzl⟩ := info_ti hti
    have hs0 : size ≠ 0 := fun e => by
      have := hc.2; rw [e] at this; cases this
    split at h
    · rename_i sz fl rows sz' fl' new
      obtain ⟨hcs, h⟩ := bif_elim h
      simp only [Bool.and_eq_true] at hcs
      exact appL_sound hg hw ht (hzl.trans hc.1) hs0 (hx.size hcs.1) (hy.size hcs.2) h fun Z' μ' fl' v u' e1 e2 e3 e4 e5 e6 e7 => hK Z' μ' _ v u' e1 e2 e3 e4 e5 e6 e7
    · rename_i a n' c'
      have ev := hx.ofRaw.1
      simp only [Value.slice.injEq] at ev
      obtain ⟨rfl, rfl, rfl⟩ := ev
      cases q with
      | true => exact h.elim
      | false =>
        simp only [cond_false] at h
        exact appR_sound hg hw ht (hzl.trans hc.1) hs0 hy h fun μ' a' n' c' u' e1 e2 e3 e4 e5 => hK Z μ' _ _ u' e1 e2 e3 e4 (fun h => by cases h) (.raw _ rfl rfl) e5
    · exact h.elim
  · exact h.elim

theorem toRaw_rep {r : Bool} {x : PV} {v : Value} (h : Rep Z x v) : Rep Z (toRaw r x) v := by
  unfold toRaw
  cases r with
  | false => exact h
  | true =>
    simp only [cond_true]
    split
    · obtain ⟨a, n, c, rfl, _, _, _, hf⟩ := h.ofList
      obtain ⟨rfl, rfl, rfl⟩ := hf
      exact .raw _ rfl rfl
    · exact h

theorem toRaws_rep {r : Bool} {cs : List PV} {vs : List Value} (h : RepC Z cs vs) : RepC Z (cs.map (toRaw r)) vs :=
  ⟨by rw [List.length_map]; exact h.1, fun i p v hp hv => by
    rw [List.getElem?_map] at hp
    cases hc : cs[i]? with
    | none => rw [hc] at hp; cases hp
    | some c =>
      rw [hc] at hp
      simp only [Option.map_some, Option.some.injEq] at hp
      subst hp
      have := h.2 i c v hc hv
      refine ⟨?_, toRaw_rep this.2⟩
      unfold toRaw
      cases r with
      | false => exact this.1
      | true =>
        simp only [cond_true]
        split
        · rfl
        · exact this.1⟩

theorem exR_sound {P : Program} {r : Bool} {t : TypeId} {F : PV → Mem → Prop} {G : Value → Prop} {pp : PV} {v : Value} {μ' : Mem} {Z' : Fz} (hp : Rep Z' pp v) (h : exRP P r t fun p' => pp = p' ∧ F p' μ') (hG : F pp μ' → G v) : exR P t fun v' => v = v' ∧ G v' := by
  obtain ⟨p', ⟨rfl, hF⟩, hex⟩ := exRP_elim (Z := Z') h
  exact hex hp ⟨rfl, hG hF⟩

theorem wf_cont {q : Bool} {KP : PSt → Mem → Prop} {K : St → UW → Prop} (hr : Rel2 Z p s) (hK : Cont q Z μ u KP K) (r : Bool) (t : TypeId) : ContV q Z μ u (fun v μ' => exRP E.P r t fun v' => v = v' ∧ KP (finP o p v') μ') (fun v u' => exR E.er.P t fun v' => v = v' ∧ K (fin o s v') u') :=
  fun Z' μ' pp v u' e1 e2 e3 e4 e5 e6 e7 => exR_sound (F := fun p' μ' => KP (finP o p p') μ') (G := fun v' => K (fin o s v') u') e6 e7 fun hk => hK Z' _ μ' _ u' ((hr.mono e1.le).fin o e6) e2 e3 e1 e4 e5 hk

theorem V1_sound (hr : Rel2 Z p s) (hg : Good Z u μ) (hw : Wf u) (hK : Cont q Z μ u KP K) (h : V1 E q fz o p μ KP) : W1 E.er fz o s u K := by
  have hK0 : ∀ p' s', Rel2 Z p' s' → KP p' μ → K s' u := fun p' s' h1 h2 => hK Z p' μ s' u h1 hg hw hg.ext (Nat.le_refl _) (fun _ => Below.refl _ _) h2
  by_cases htk : takeable o = true
  · cases hl : isLoadO o with
    | false => exact V1_pure hr htk hl hK0 h
    | true => exact load_sound hr hg (Fz.le.refl Z) (.inr hg) hl hK0 h
  · unfold takeable at htk
    unfold V1 at h
    unfold W1
    simp only at h ⊢
    cases hop : o.op <;> simp only [hop] at h htk ⊢ <;> first | (exact absurd trivial htk) | (exact h.elim) | skip
    case alloc t =>
      cases hz : (E.P.info? t).bind (·.zero) with
      | none => rw [hz] at h; exact h.elim
      | some z =>
        rw [hz] at h
        have hz' : (E.er.P.info? t).bind (·.zero) = some z := hz
        rw [hz']
        obtain ⟨hok, h⟩ := bif_elim h
        have hrep : Rep Z (zeroP E.P t z) z := (ofV_rep Z z).nrmT
        exact newB_sound hr hg hw hK (toRaws_rep (hrep.cells hok)) h
    case box t x =>
      obtain ⟨hok, h⟩ := bif_elim h
      have hx := hr.ev x
      rw [hx.plain hok]
      simp only [cond_true]
      have hrep := hx.nrmT (P := E.P) (t := t)
      exact newB_sound hr hg hw hK (toRaws_rep (hrep.cells (by rw [nrmT_ok]; exact hok))) h
    case buildSlice t len ps =>
      obtain ⟨hc, h⟩ := bif_elim h
      simp only [Bool.and_eq_true] at hc
      have hpl : (ps.toList.all fun p => plain (ev s.σ p.2)) = true := by
        rw [List.all_eq_true]
        exact fun x hx => (hr.ev x.2).plain (List.all_eq_true.1 hc.1 x hx)
      rw [hpl, hc.2]
      simp only [Bool.and_self, cond_true]
      cases he : elemT E.P t with
      | none => rw [he] at h; exact h.elim
      | some e =>
        rw [he] at h
        have he' : elemT E.er.P t = some e := he
        rw [he']
        simp only at h ⊢
        split at h
        · rename_i rows hb
          obtain ⟨w, hwl, hrep, hl, hrl⟩ := bldL_rep (Z := Z) (vs := ps.toList.map fun p => (p.1, ev s.σ p.2)) (by simp) (fun i x y a b => by
            rw [List.getElem?_map] at a b
            cases hi : ps.toList[i]? with
            | none => rw [hi] at a; cases a
            | some z =>
              rw [hi] at a b
              simp only [Option.map_some, Option.some.injEq] at a b
              subst a; subst b
              exact ⟨rfl, by rw [nrmT_ok]; exact List.all_eq_true.1 hc.1 z (List.mem_of_getElem? hi), (hr.ev z.2).nrmT⟩) hb
          have hwl' : bldL (E.er.P.cellsOf e) 0 (ps.toList.map fun p => (p.1, ev s.σ p.2)) = some w := hwl
          rw [hwl']
          obtain ⟨hc2, h⟩ := bif_elim h
          have hc2' : (Nat.ble w.length 65536 && ((E.er.P.info? e).bind (·.zero)).isSome && !Nat.beq (E.er.P.cellsOf e) 0) = true := by rw [hrep.1]; exact hc2
          simp only [hc2', cond_true]
          intro b w' hB
          cases hwr : wrtO E o with
          | true =>
            rw [hwr] at h
            obtain ⟨g1, g2, g3⟩ := hg.born hB (cs := rows.flatten.map (toRaw (rawO E o))) (toRaws_rep hrep).m
            exact hK Z _ _ _ _ (hr.fin o (.raw _ rfl rfl)) g1 (hw.born hB) g2 hB.below.size (fun _ => hB.below) (h b g3)
          | false =>
            rw [hwr] at h
            obtain ⟨g1, g2⟩ := hg.bornF hB
            refine hK _ _ μ _ _ ((hr.mono g2.le).fin o ?_) g1 (hw.born hB) g2 hB.below.size (fun _ => hB.below) h
            have hlen : rows.length = len := by
              have := beq_iff.1 hc.2; rw [hl, ← this]; simp
            have := rep_list (Z := Z.set b w.toArray.toList) (sz := E.P.cellsOf e) (fl := .nr) (rows := rows) (vs := w) (b := b) (o := 0) (c := rows.length) (C := w) hrl (hrep.mono g2.le) (Fz.set_same _ _ _) (fun k _ => by rw [Nat.zero_add]) (Nat.le_refl _) rfl
            rw [hlen] at this
            exact this
        · exact h.elim
    case store t x y =>
      obtain ⟨hc, h⟩ := bif_elim h
      simp only [Bool.and_eq_true, beq_iff] at hc
      have hy := hr.ev y
      have hx := hr.ev x
      have hrep := (hy.nrmT (P := E.P) (t := t)).cells (by rw [nrmT_ok]; exact hc.1.1)
      have hsz : (ev s.σ y).cells.size = (nrmT E.P t (evP p.σ y)).cells.length := by have := hrep.1; simpa using this
      have hcc : (plain (ev s.σ y) && Nat.beq (ev s.σ y).cells.size (E.er.P.cellsOf t) && allPlain (ev s.σ y).cells.toList && (E.er.P.info? t).isSome) = true := by
        have h2 : (E.er.P.info? t).isSome = true := hc.2
        rw [hy.plain hc.1.1, hsz, hc.1.2, allPlain_of hrep, h2]
        have : Nat.beq (E.P.cellsOf t) (E.er.P.cellsOf t) = true := Nat.beq_refl _
        rw [this]; rfl
      rw [hcc]
      simp only [cond_true]
      split at h
      · rename_i k off he
        rw [he] at hx; rw [hx.ofBox]
        simp only
        rw [← hr.D]
        split at h
        · rename_i m hm
          rw [hm]
          simp only
          obtain ⟨hb, h⟩ := bif_elim h
          rw [hsz, hb]
          simp only [cond_true]
          exact hK0 { p with σ := putP (wrGP p.σ k off (nrmT E.P t (evP p.σ y)).cells) o.dst (.tup []) } _ ⟨rfl, RepF.put (RepF.wrG hr.slot hrep.m) (Reps.toTup (vs := []) (Reps.nil Z))⟩ h
        · exact h.elim
      · cases q with
        | true => exact h.elim
        | false =>
          simp only [cond_false] at h
          unfold withPtrP at h
          split at h
          · rename_i b off he
            rw [he] at hx
            rw [hx.ofRaw.1]
            show withPtr (.pointer (some ⟨b, off, none⟩)) _
            unfold withPtr
            simp only
            obtain ⟨T, cs, hm, hl, h⟩ := h
            exact hg.store hm hl (toRaws_rep hrep).m fun w' hs g1 g2 => hK Z _ _ _ _ (hr.fin o (Reps.toTup (vs := []) (Reps.nil Z))) g1 (hw.sto hs) g2 hs.size (fun h => by cases h) h
          · exact h.elim
    case makeSlice t x y =>
      have hx := hr.ev x
      have hy := hr.ev y
      split at h
      · rename_i e k i k' j hu he hj
        have hu' : E.er.P.underlying t = some (.slice e) := hu
        rw [he] at hx; rw [hj] at hy
        rw [hu', hx.ofRaw.1, hy.ofRaw.1]
        simp only
        cases hi : E.P.info? e with
        | none => rw [hi] at h; exact h.elim
        | some inf =>
          rw [hi] at h
          have hi' : E.er.P.info? e = some inf := hi
          rw [hi']
          simp only [Option.map_some] at h ⊢
          cases hz : inf.zero with
          | none => rw [hz] at h; exact h.elim
          | some z =>
            rw [hz] at h
            simp only [Option.map_some] at h ⊢
            obtain ⟨hc, g1, g2, g3, g4, h⟩ := bif_elim h
            simp only [Bool.and_eq_true, beq_iff] at hc
            have hrep : Rep Z (zeroP E.P e z) z := (ofV_rep Z z).nrmT
            have hrc : RepC Z (zeroP E.P e z).cells z.cells.toList := by
              cases hk : (zeroP E.P e z).ok with
              | true => exact hrep.cells hk
              | false =>
                exfalso
                have h3 := hc.2
                cases hzp : zeroP E.P e z <;> rw [hzp] at hk h3 <;> simp [PV.ok, PV.cell, PV.cells, allCell] at hk h3
            have hc' : (Nat.beq z.cells.toList.length inf.size && !Nat.beq inf.size 0) = true := by
              rw [hrc.1, hc.1.1, hc.1.2]; simp
            rw [hc']
            simp only [cond_true]
            refine ⟨g1, g2, g3, g4, fun b w' hB => ?_⟩
            have hrr : ∀ n : Nat, RepM Z (List.replicate n (zeroP E.P e z).cells).flatten (List.replicate n z.cells.toList).flatten := by
              intro n
              induction n with
              | zero => exact RepM.nil Z
              | succ n ih => rw [List.replicate_succ, List.replicate_succ, List.flatten_cons, List.flatten_cons]; exact hrc.m.append ih
            obtain ⟨d1, d2, d3⟩ := hg.born hB (cs := (List.replicate j.toNat (zeroP E.P e z).cells).flatten) (hrr _)
            exact hK Z _ _ _ _ (hr.fin o (.raw _ rfl rfl)) d1 (hw.born hB) d2 hB.below.size (fun _ => hB.below) (h b d3)
      · exact h.elim
    case call c =>
      obtain ⟨cal, args, ats⟩ := c
      cases cal with
      | builtin b =>
        simp only at h htk ⊢
        unfold V1b at h
        unfold W1b
        generalize args.toList = al at h ⊢
        generalize ats.toList = tl at h ⊢
        cases b <;> first | (exact absurd rfl htk) | (exact h.elim) | skip
        match al, tl, h with
        | [x, y], [t, t'], h =>
          simp only at h ⊢
          have hx := toRaw_rep (r := rawO E o) (hr.ev x)
          have hy := hr.ev y
          split at h
          · rename_i e e' hu hu2
            have hu' : E.er.P.underlying t = some (.slice e) := hu
            have hu2' : E.er.P.underlying t' = some (.slice e') := hu2
            rw [hu', hu2']
            have sl : ∀ {pp : PV} {v : Value}, Rep Z pp v → (∃ sz fl rows, pp = .list sz fl rows) ∨ (∃ a n c, pp = .raw (.slice a n c)) → ∃ a n c, v = .slice a n c := by
              rintro pp v hv (⟨sz, fl, rows, rfl⟩ | ⟨a, n, c, rfl⟩)
              · obtain ⟨a, n, c, rfl, _⟩ := hv.ofList; exact ⟨a, n, c, rfl⟩
              · exact ⟨a, n, c, hv.ofRaw.1⟩
            have hsh : ((∃ sz fl rows, toRaw (rawO E o) (evP p.σ x) = .list sz fl rows) ∨ (∃ a n c, toRaw (rawO E o) (evP p.σ x) = .raw (.slice a n c))) ∧ ((∃ sz fl rows, evP p.σ y = .list sz fl rows) ∨ (∃ a n c, evP p.σ y = .raw (.slice a n c))) := by
              unfold cAppP at h
              split at h
              · obtain ⟨_, h⟩ := bif_elim h
                split at h
                · rename_i e1 e2; exact ⟨.inl ⟨_, _, _, e1⟩, .inl ⟨_, _, _, e2⟩⟩
                · rename_i e1
                  refine ⟨.inr ⟨_, _, _, e1⟩, ?_⟩
                  cases q with
                  | true => exact h.elim
                  | false =>
                    simp only [cond_false] at h
                    unfold appR newC at h
                    split at h
                    · rename_i e2; exact .inl ⟨_, _, _, e2⟩
                    · rename_i e2; exact .inr ⟨_, _, _, e2⟩
                    · exact h.elim
                · exact h.elim
              · exact h.elim
            obtain ⟨xa, n, cap, hxv⟩ := sl hx hsh.1
            obtain ⟨yb, m, yc, hyv⟩ := sl hy hsh.2
            rw [hxv, hyv]
            rw [hxv] at hx; rw [hyv] at hy
            simp only
            exact app_sound (KV := fun v u' => K (fin o s v) u') hg hw hx hy h fun Z' μ' pp v u' e1 e2 e3 e4 e5 e6 e7 => hK Z' _ μ' _ u' ((hr.mono e1.le).fin o e6) e2 e3 e1 e4 e5 e7
          · exact h.elim
        | [], _, h => exact h.elim
        | [_], _, h => exact h.elim
        | [_, _], [], h => exact h.elim
        | [_, _], [_], h => exact h.elim
        | [_, _], _ :: _ :: _ :: _, h => exact h.elim
        | _ :: _ :: _ :: _, _, h => exact h.elim
      | value f =>
        simp only at h ⊢
        obtain ⟨hc, h⟩ := bif_elim h
        rw [all_plain_ev hr hc]
        simp only [cond_true]
        exact CallD.v hg hw (hr.ev f) (allOk_ev hr hc).argsP h (wf_cont (E := E) hr hK (rawO E o) o.type)
      | invoke x name =>
        simp only at h ⊢
        obtain ⟨hc, h⟩ := bif_elim h
        rw [all_plain_ev hr hc]
        simp only [cond_true]
        have hx := hr.ev x
        split at h
        · rename_i t pp he
          rw [he] at hx
          cases hvx : ev s.σ x with
          | iface t' v =>
            rw [hvx] at hx
            cases hx with
            | iface _ _ _ hk hv =>
              simp only
              split at h
              · rename_i g r' hm
                obtain ⟨hall, h⟩ := h
                have hall' : pv E.er.P (method (E.er.P.types.size + Made.depth) t v name) = some (g, v) := hall v
                rw [hall']
                simp only
                have := CallD.v (fv := .func (.func g) #[] #[]) (vs := v :: args.toList.map (ev s.σ)) hg hw (Reps.toFn (fv := []) (cv := []) (Reps.nil Z) (Reps.nil Z)) (Reps.cons (by rw [wk2_ok]; exact hk) hv.wk2 (allOk_ev hr hc).argsP) h (wf_cont (E := E) hr hK (rawO E o) o.type)
                have h2 : (bif callable E.P g then CallF E.P g ((#[] : Array Value).toList ++ (v :: args.toList.map (ev s.σ)) ++ (#[] : Array Value).toList).toArray u (fun v u' => exR E.er.P o.type fun v' => v = v' ∧ K (fin o s v') u') else False) := this
                obtain ⟨hcl, h3⟩ := bif_elim h2
                have hcl' : callable E.er.P g = true := hcl
                rw [hcl']
                simp only [cond_true]
                show CallF E.P g _ u _
                simpa using h3
              · exact h.elim
          | _ => rw [hvx] at hx; cases hx
        · exact h.elim

end
end Go.Eng
