import Derived.Test.YtfliaomdedfleaaQ05
import Derived.Test.YtfliaomdedfleaaChecked
import Derived.KernelRfl
/-
  V is sound: code; functions.
-/
namespace Go.Eng
open Go.RowKit
set_option linter.unusedVariables false

/-- What is handed on at each way out. -/
def ContE (Z : Fz) (μ : Mem) (u : UW) (QP : Exit → PSt → Mem → Prop) (Q : Exit → St → UW → Prop) : Prop := ∀ e, Cont false Z μ u (QP e) (Q e)

theorem ContE.step {Z Z1 : Fz} {μ μ1 : Mem} {u u1 : UW} {QP : Exit → PSt → Mem → Prop} {Q : Exit → St → UW → Prop} (h : ContE Z μ u QP Q) (e : Ext Z μ u.heap.size Z1 μ1) (hN : u.heap.size ≤ u1.heap.size) : ContE Z1 μ1 u1 QP Q := fun x => (h x).step e hN

theorem Cont.now {Z : Fz} {μ : Mem} {u : UW} {KP : PSt → Mem → Prop} {K : St → UW → Prop} (h : Cont false Z μ u KP K) {p : PSt} {s : St} (hr : Rel2 Z p s) (hg : Good Z u μ) (hw : Wf u) (hk : KP p μ) : K s u :=
  h Z p μ s u hr hg hw hg.ext (Nat.le_refl _) (fun h => by cases h) hk

theorem ContE.thenQ {Z : Fz} {μ : Mem} {u : UW} {QP : Exit → PSt → Mem → Prop} {Q : Exit → St → UW → Prop} {NP : PSt → Mem → Prop} {N : St → UW → Prop} (h : ContE Z μ u QP Q) (hn : Cont false Z μ u NP N) : ContE Z μ u (thenQP NP QP) (thenQ N Q) := by
  intro e
  cases e <;> first | exact hn | exact h _

theorem ContE.blockQ {Z : Fz} {μ : Mem} {u : UW} {QP : Exit → PSt → Mem → Prop} {Q : Exit → St → UW → Prop} (h : ContE Z μ u QP Q) (id : Nat) : ContE Z μ u (blockQP id QP) (blockQ id Q) := by
  intro e
  cases e with
  | exit i =>
    intro Z' p' μ' s' u' a1 a2 a3 a4 a5 a6 a7
    simp only [blockQP] at a7
    simp only [Eng.blockQ]
    cases hb : Nat.beq i id with
    | true => rw [hb] at a7; exact h .normal Z' p' μ' s' u' a1 a2 a3 a4 a5 a6 a7
    | false => rw [hb] at a7; exact h (.exit i) Z' p' μ' s' u' a1 a2 a3 a4 a5 a6 a7
  | normal => exact h _
  | ret => exact h _
  | goto i => exact h _
  | panic i => exact h _
  | outgrown => exact h _

/-- A state of a join's, a loop's. -/
def Held (Z : Fz) (μ : Mem) (N : Nat) (l : LiveP) (J : TupP l → Mem → Prop) (b : Tup l.er) (u : UW) : Prop :=
  ∃ Z' μ' a, Ext Z μ N Z' μ' ∧ Good Z' u μ' ∧ Wf u ∧ N ≤ u.heap.size ∧ RepTup Z' l a b ∧ J a μ'

theorem toJ_cont {Z : Fz} {μ : Mem} {u : UW} {c : CutP} {J : TupP c.live → Mem → Prop} {J' : Tup c.er.live → UW → Prop} (h : ∀ Z' μ' u' a b, Ext Z μ u.heap.size Z' μ' → Good Z' u' μ' → Wf u' → u.heap.size ≤ u'.heap.size → RepTup Z' c.live a b → J a μ' → J' b u') : Cont false Z μ u (toJP c J) (toJ c.er J') :=
  fun Z' p' μ' s' u' a1 a2 a3 a4 a5 _ a7 => toJ_rep a1 a7 fun a b hab hj => h Z' μ' u' a b a4 a2 a3 a5 hab hj

theorem PK_rep {p : Option Code} {A B A' B' : Prop} {l : List Nat} {F F' : Nat → Prop} (h : PK p A B (l.map fun i => (i, F i))) (ha : A → A') (hb : B → B') (hf : ∀ i, F i → F' i) : PK p A' B' (l.map fun i => (i, F' i)) := by
  unfold PK at h ⊢
  split at h
  · exact ha h
  · exact hb h
  · rename_i i
    induction l with
    | nil => exact h
    | cons x l ih =>
      simp only [List.map_cons, lookP] at h ⊢
      cases hx : Nat.beq x i with
      | true => rw [hx] at h; simp only [cond_true] at h ⊢; exact hf x h
      | false => rw [hx] at h; simp only [cond_false] at h ⊢; exact ih h
  · exact h.elim

/-- A record of the machine is laid. -/
theorem Good.bornO {Z : Fz} {u : UW} {μ : Mem} (h : Good Z u μ) {b : Nat} {w' : World} {ob : Obj} (hB : Born u.toWorld w' b ob) {F : FrP} {S : Fr} (hF : RepF Z F S) : Good Z (u.born b w') (μ.set b (some (.obj ob F S))) ∧ μ b = none := by
  have hge : u.heap.size ≤ b := hB.ge
  have keep : ∀ c, c < u.heap.size → (u.born b w').heap[c]? = u.heap[c]? := fun c hc => hB.below.block c hc
  refine ⟨h.go (Fz.le.refl Z) (fun c C hC => .inl ⟨hC, keep c (h.ltZ (by rw [hC]; simp))⟩) (fun c o ho => ?_), h.newM hge⟩
  by_cases e : c = b
  · subst e
    rw [Mem.set_same] at ho; cases ho
    exact .inr ⟨fun _ => .inr rfl, h.newZ hge, hB.at_, hF⟩
  · rw [Mem.set_ne _ _ e] at ho
    exact .inl ⟨ho, keep c (h.ltM (by rw [ho]; simp)), fun hp => .inl hp, rfl⟩

/-- A record is masked, unmasked. -/
theorem Good.mask {Z : Fz} {u : UW} {μ : Mem} {l : Nat} {ob : Obj} {F : FrP} {S : Fr} (h : Good Z u (μ.set l (some (.obj ob F S)))) (hl : μ l = none) : Good Z ⟨u.toWorld.putObj l masked, fun b => u.pub b ∧ b ≠ l⟩ μ := by
  obtain ⟨_, hz, _⟩ := h.mem l (.obj ob F S) (Mem.set_same _ _ _)
  refine h.go (Fz.le.refl Z) (fun c C hC => .inl ⟨hC, ?_⟩) (fun c o ho => .inl ?_)
  · have hne : c ≠ l := by rintro rfl; rw [hz] at hC; cases hC
    exact putObj_get hne
  · have hne : c ≠ l := by rintro rfl; rw [hl] at ho; cases ho
    exact ⟨by rw [Mem.set_ne _ _ hne]; exact ho, putObj_get hne, fun hp => ⟨hp, hne⟩, rfl⟩

theorem rndS_rep {Z : Fz} {p : FrP} {s : Fr} (h : RepF Z p s) : RepF Z (rndSP p) (rndS s) := by
  intro t
  unfold rndSP rndS
  have ht := h t
  cases hp : p t with
  | box k o => exact .poison _
  | poison => exact .poison _
  | _ =>
    rw [hp] at ht
    cases hs : s t with
    | complex k a b => rw [hs] at ht; first | (cases ht; done) | (cases ht; rename_i hpl _; cases hpl)
    | _ => rw [hs] at ht; exact ht

theorem setPs_rep {Z : Fz} : ∀ {qs : List Nat} {ps : List PV} {vs : List Value} {p : FrP} {s : Fr}, RepF Z p s → RepM Z ps vs → RepF Z (setPsP p qs ps) (setPs s qs vs)
  | [], ps, vs, p, s, h, _ => by cases ps <;> cases vs <;> exact h
  | q :: qs, [], vs, p, s, h, hm => by rw [hm.inv0]; exact h
  | q :: qs, x :: ps, vs, p, s, h, hm => by
    obtain ⟨v, vs', rfl, h1, h2⟩ := hm.inv
    exact setPs_rep (p := updP p q x) (s := upd s q v) (h.upd h1) h2

variable {E : EnvP}

def VS (E : EnvP) (c : Code) : Prop := ∀ (fz : List Nat) (QP : Exit → PSt → Mem → Prop) (Q : Exit → St → UW → Prop) (p : PSt) (s : St) (μ : Mem) (u : UW) (Z : Fz), Rel2 Z p s → Good Z u μ → Wf u → ContE Z μ u QP Q → V E fz c QP p μ → W E.er fz c Q s u

theorem range_rep {P : Program} {f : PV} {fv : Value} {Z : Fz} {μ : Mem} {u : UW} {FP : FrP} {F9 : Fr} {bodyP : List PV → (Option Code → Mem → Prop) → Mem → Prop} {body : List Value → (Option Code → UW → Prop) → UW → Prop} {KP : Option Code → Mem → Prop} {K : Option Code → UW → Prop}
    (hg : Good Z u μ) (hw : Wf u) (hf : Rep Z f fv) (hF : RepF Z FP F9) (h : RangeP P f bodyP KP μ)
    (hbody : ∀ (Z1 : Fz) (u1 : UW) (μ1 : Mem) (vsP : List PV) (vs : List Value) (RP : Option Code → Mem → Prop) (R : Option Code → UW → Prop), RepF Z1 FP F9 → Good Z1 u1 μ1 → Wf u1 → Reps Z1 vsP vs → (∀ pc Z' μ' u', Ext Z1 μ1 u1.heap.size Z' μ' → Good Z' u' μ' → Wf u' → u1.heap.size ≤ u'.heap.size → RP pc μ' → R pc u') → bodyP vsP RP μ1 → body vs R u1)
    (hK : ∀ pc Z' μ' u', Ext Z μ u.heap.size Z' μ' → Good Z' u' μ' → Wf u' → u.heap.size ≤ u'.heap.size → KP pc μ' → K pc u') : RangeF P fv body K u := by
  obtain ⟨⟨g, a, b, rfl⟩, h⟩ := h
  obtain ⟨fv', cv', rfl, _, _⟩ := id hf.ofFn
  refine ⟨⟨g, _, _, rfl⟩, fun l rec w' hil hB hy => ?_⟩
  obtain ⟨gb, hml⟩ := hg.bornO hB hF
  have hwb : Wf (u.born l w') := hw.born hB
  have hge : u.heap.size ≤ l := hB.ge
  have hbs : u.heap.size ≤ w'.heap.size := hB.below.size
  have ry : ∀ Z1 : Fz, Rep Z1 (.fn (.yield l) [] []) (.func (.yield l) #[] #[]) := fun Z1 => Reps.toFn (fv := []) (cv := []) (Reps.nil Z1) (Reps.nil Z1)
  have hcall := h l (fun p => .obj (rec p) FP F9) hml (fun vs μ1 R hm1 hb => ?_)
  · have hc2 := CallVP.v gb hwb hf (Reps.cons rfl (ry Z) (Reps.nil Z)) hcall
    refine hc2.mono fun v lo w2 hm hlo hp => ?_
    obtain ⟨Z', μ', pp, e, g', hr, pc, μ3, hl3, rfl, hk⟩ := hp
    obtain ⟨hpl, hzl, hhl, _⟩ := g'.mem l _ (Mem.set_same _ _ _)
    have hsz : (u.born l w').heap.size ≤ w2.heap.size := hm.size
    have hsz' : w'.heap.size ≤ w2.heap.size := hsz
    refine ⟨pc, hhl, hK pc Z' μ3 _ ⟨e.le, fun b C hb hn => ?_, fun b hb => ?_, fun b hb => ?_, fun b hb => hg.ltZ hb⟩ (g'.mask hl3) ?_ ?_ hk⟩
    · refine e.zs b C hb ?_
      have hlt := hg.ltZ (b := b) (by rw [hb]; simp)
      rw [Mem.set_ne _ _ (by omega)]; exact hn
    · rcases e.zn b hb with h1 | h1 | h1
      · exact .inl h1
      · by_cases e' : b = l
        · subst e'; exact .inr (.inr hge)
        · rw [Mem.set_ne _ _ e'] at h1; exact .inr (.inl h1)
      · have : w'.heap.size ≤ b := h1
        exact .inr (.inr (by omega))
    · have hne : b ≠ l := by rintro rfl; exact hb hl3
      rcases e.mn b (by rw [Mem.set_ne _ _ hne]; exact hb) with h1 | h1
      · rw [Mem.set_ne _ _ hne] at h1; exact .inl h1
      · have : w'.heap.size ≤ b := h1
        exact .inr (by omega)
    · intro b hb
      have := hwb.ret (lo := lo) hsz b hb.1
      simpa using this
    · show _ ≤ (w2.putObj l masked).heap.size
      have : (w2.putObj l masked).heap.size = w2.heap.size := by simp
      omega
  · show CallVS P (.fn (.yield l) [] []) vs _ _
    intro Z1 u1 fv1 vs1 g1 hw1 hfv1 hvs1
    have ef : fv1 = .func (.yield l) #[] #[] := by
      obtain ⟨x, y, rfl, h1, h2⟩ := hfv1.ofFn
      rw [h1.inv0, h2.inv0]
    subst ef
    obtain ⟨hpl, hzl, hhl, hFF⟩ := g1.mem l _ (Mem.set_same _ _ _)
    have hpl := hpl rfl
    have hll : l < u1.heap.size := (Array.getElem?_eq_some_iff.1 hhl).1
    have hwm : Wf ⟨u1.toWorld.putObj l masked, fun b => u1.pub b ∧ b ≠ l⟩ := fun b hb => by simpa using hw1 b hb.1
    have hval := hy vs1 u1.toWorld (fun b => u1.pub b ∧ b ≠ l) (fun pc uu => ∃ Z' μ3, Ext Z1 μ1 u1.heap.size Z' μ3 ∧ Good Z' uu μ3 ∧ Wf uu ∧ R pc μ3) hhl (fun b hb => ⟨hw1 b hb.1, hb.2⟩)
      (hbody Z1 _ μ1 vs vs1 R _ hFF (g1.mask hm1) hwm hvs1 (fun pc Z' μ' u' e1 e2 e3 e4 e5 => ⟨Z', μ', by simpa using e1, e2, e3, e5⟩) hb)
    refine CallV_iff.2 ⟨fun b => (u1.pub b ∧ b ≠ l) ∨ b = l, fun b hb => hb.elim (·.1) (fun e => by subst e; exact hpl), hval.mono fun v lo w2 hm hlo _ hp => ?_⟩
    obtain ⟨pc, pub, w3, rfl, rfl, hmk, hpub, Z', μ3, e, g3, hw3, hR⟩ := hp
    have hlw : l < w3.heap.size := (Array.getElem?_eq_some_iff.1 hmk).1
    have hzl' : Z' l = none := by
      cases hz : Z' l with
      | none => rfl
      | some C =>
        rcases e.zn l (by rw [hz]; simp) with h1 | h1 | h1
        · exact absurd hzl h1
        · exact absurd hm1 h1
        · omega
    have hm3 : μ3 l = none := by
      cases hz : μ3 l with
      | none => rfl
      | some C =>
        rcases e.mn l (by rw [hz]; simp) with h1 | h1
        · exact absurd hm1 h1
        · omega
    have hsz3 : (w3.putObj l (rec pc)).heap.size = w3.heap.size := by simp
    refine ⟨Z', μ3.set l (some (.obj (rec pc) FP F9)), pB pc.isNone, ⟨e.le, fun b C hb hn => ?_, fun b hb => ?_, fun b hb => ?_, e.lt⟩, ⟨fun b C hb => ?_, fun b o ho => ?_⟩, .raw _ rfl rfl, pc, μ3, rfl, hm3, rfl, hR⟩
    · refine e.zs b C hb ?_
      by_cases e' : b = l
      · subst e'; exact hm1
      · rw [Mem.set_ne _ _ e'] at hn; exact hn
    · rcases e.zn b hb with h1 | h1 | h1
      · exact .inl h1
      · by_cases e' : b = l
        · subst e'; exact absurd hm1 h1
        · exact .inr (.inl (by rw [Mem.set_ne _ _ e']; exact h1))
      · exact .inr (.inr h1)
    · by_cases e' : b = l
      · subst e'; exact .inl (by rw [Mem.set_same]; simp)
      · rw [Mem.set_ne _ _ e'] at hb ⊢
        exact e.mn b hb
    · have hne : b ≠ l := by rintro rfl; rw [hzl'] at hb; cases hb
      obtain ⟨A, T, f, hA, hpre⟩ := g3.zok b C hb
      exact ⟨A, T, f, (putObj_get hne).trans hA, hpre⟩
    · by_cases e' : b = l
      · subst e'
        rw [Mem.set_same] at ho; cases ho
        exact ⟨fun _ => .inl hpl, hzl', World.putObj_heap_same hlw, fun t => (hFF t).mono e.le⟩
      · rw [Mem.set_ne _ _ e'] at ho
        obtain ⟨p1, p2⟩ := g3.mem b o ho
        refine ⟨fun hrw => ?_, p2.go (Fz.le.refl _) rfl (putObj_get e')⟩
        rcases hpub b (p1 hrw) with h1 | h1
        · exact .inl h1.1
        · refine .inr ⟨h1, ?_⟩
          rw [hsz3]; exact p2.lt

theorem V_sound (c : Code) : VS E c := by
  induction c with
  | skip => intro fz QP Q p s μ u Z hr hg hw hC h; exact (hC .normal).now hr hg hw h
  | ret => intro fz QP Q p s μ u Z hr hg hw hC h; exact (hC .ret).now hr hg hw h
  | exit i => intro fz QP Q p s μ u Z hr hg hw hC h; exact (hC (.exit i)).now hr hg hw h
  | region id ops draw =>
    intro fz QP Q p s μ u Z hr hg hw hC h
    cases draw with
    | false => exact Vl_sound ops.toList p s μ u Z hr hg hw (hC .normal) h
    | true =>
      simp only [V] at h
      simp only [W]
      obtain ⟨hm, h⟩ := bif_elim h
      have hm' : E.er.P.follows .mixedOrders = true := hm
      rw [hm']
      simp only [cond_true]
      cases hp : mkPlan ops with
      | none => rw [hp] at h; exact h.elim
      | some pl =>
        rw [hp] at h
        simp only at h ⊢
        have hok : POk ops pl := by
          unfold mkPlan at hp
          cases hs : Region.noSelect ops with
          | true => rw [hs] at hp; exact planF_ok hp
          | false => rw [hs] at hp; cases hp
        exact Vd_sound hg pl true p s μ u Z hok hr hg hw (Fz.le.refl Z) (fun _ => hg) (.inl (Below.refl _ _)) (hC .normal) h
  | seq x y ihx ihy =>
    intro fz QP Q p s μ u Z hr hg hw hC h
    simp only [V] at h
    simp only [W]
    have hlook : ∀ {i : Nat}, look E.er.joins i = (look E.joins i).map CutP.er := fun {i} => look_map CutP.er E.joins i
    have hbind : (firstR y).bind (look E.er.joins) = ((firstR y).bind (look E.joins)).map CutP.er := by
      cases firstR y with
      | none => rfl
      | some i => exact hlook
    rw [hbind]
    split at h
    · rename_i hj
      rw [hj]
      exact ihx fz _ _ p s μ u Z hr hg hw (hC.thenQ fun Z' p' μ' s' u' a1 a2 a3 a4 a5 _ a7 => ihy fz QP Q p' s' μ' u' Z' a1 a2 a3 (hC.step a4 a5) a7) h
    · rename_i l hj
      rw [hj]
      simp only [Option.map_some]
      obtain ⟨hl, J, hA, hB⟩ := bif_elim h
      rw [hr.D] at hl hA
      rw [hl]
      simp only [cond_true]
      refine ⟨Held Z μ u.heap.size l.live J, ?_, ?_⟩
      · exact ihx _ _ _ p s μ u Z hr hg hw (hC.thenQ (toJ_cont fun Z' μ' u' a b e1 e2 e3 e4 e5 e6 => ⟨Z', μ', a, e1, e2, e3, e4, e5, e6⟩)) hA
      · rintro b u' ⟨Z', μ', a, e1, e2, e3, e4, e5, e6⟩
        exact ihy fz QP Q _ _ μ' u' Z' (mix_rep (hr.mono e1.le) (writes x) e5) e2 e3 (hC.step e1 e4) (hB a μ' e6)
  | cond c x y ihx ihy =>
    intro fz QP Q p s μ u Z hr hg hw hC h
    simp only [V] at h
    simp only [W]
    have hc := hr.ev c
    split at h
    · rename_i t ht
      rw [ht] at hc
      rw [hc.ofRaw.1]
      simp only
      cases t with
      | true => exact ihx fz QP Q p s μ u Z hr hg hw hC h
      | false => exact ihy fz QP Q p s μ u Z hr hg hw hC h
    · exact h.elim
  | block id x ih =>
    intro fz QP Q p s μ u Z hr hg hw hC h
    simp only [V] at h
    simp only [W]
    exact ih fz _ _ p s μ u Z hr hg hw (hC.blockQ id) h
  | loop x ih =>
    intro fz QP Q p s μ u Z hr hg hw hC h
    simp only [V] at h
    simp only [W]
    have hbind : (firstR x).bind (look E.er.loops) = ((firstR x).bind (look E.loops)).map CutP.er := by
      cases firstR x with
      | none => rfl
      | some i => exact look_map CutP.er E.loops i
    rw [hbind]
    split at h
    · exact h.elim
    · rename_i l hj
      rw [hj]
      simp only [Option.map_some]
      obtain ⟨hl, h⟩ := bif_elim h
      rw [hr.D] at hl h
      rw [hl]
      simp only [cond_true]
      refine toJ_rep hr h fun a b hab hloop => ?_
      obtain ⟨I, ⟨n0, h0⟩, hround⟩ := hloop
      refine ⟨fun n => Held Z μ u.heap.size l.live (I n), ⟨n0, Z, μ, a, hg.ext, hg, hw, Nat.le_refl _, hab, h0⟩, ?_⟩
      rintro n b u' ⟨Z', μ', a, e1, e2, e3, e4, e5, e6⟩
      refine ih _ _ _ _ _ μ' u' Z' (mix_rep (hr.mono e1.le) (writes x) e5) e2 e3 ((hC.step e1 e4).thenQ (toJ_cont fun Z2 μ2 u2 a2 b2 f1 f2 f3 f4 f5 f6 => ?_)) (hround n a μ' e6)
      obtain ⟨m, hm, hi⟩ := f6
      exact ⟨m, hm, Z2, μ2, a2, e1.trans f1 e4, f2, f3, Nat.le_trans e4 f4, f5, hi⟩
  | rangeFunc f ps x y ihx ihy =>
    intro fz QP Q p s μ u Z hr hg hw hC h
    simp only [V] at h
    simp only [W]
    have hrng : look E.er.rngs (ps.toList.headD 0) = look E.rngs (ps.toList.headD 0) := rfl
    rw [hrng]
    split at h
    · exact h.elim
    · rename_i ts hts
      rw [hts]
      simp only
      obtain ⟨hlen, h⟩ := bif_elim h
      rw [hlen]
      simp only [cond_true]
      refine range_rep (FP := rndSP p.σ) (F9 := rndS s.σ) hg hw (hr.ev f) (rndS_rep hr.slot) h ?_ ?_
      · intro Z1 u1 μ1 vsP vs RP R hF hg1 hw1 hvs hR hb
        obtain ⟨ps', hok, ⟨rfl, hb⟩, hex⟩ := exVsP_elim (Z := Z1) hb
        refine hex (G := fun vs' => vs = vs' ∧ W E.er [] x (normQ fun st1 u1 => W E.er [] y (roundQ R) st1 u1) ⟨setPs (rndS s.σ) ps.toList vs', []⟩ u1) hvs.m ⟨rfl, ?_⟩
        refine ihx [] _ _ ⟨setPsP (rndSP p.σ) ps.toList vsP, []⟩ _ μ1 u1 Z1 ⟨rfl, setPs_rep hF hvs.m⟩ hg1 hw1 (fun e => ?_) hb
        cases e with
        | normal =>
          intro Z2 p2 μ2 s2 u2 a1 a2 a3 a4 a5 _ a7
          refine ihy [] _ _ p2 s2 μ2 u2 Z2 a1 a2 a3 (fun e => ?_) a7
          intro Z3 p3 μ3 s3 u3 b1 b2 b3 b4 b5 _ b7
          cases e with
          | normal => exact hR none Z3 μ3 u3 (a4.trans b4 a5) b2 b3 (Nat.le_trans a5 b5) b7
          | ret => exact hR (some .ret) Z3 μ3 u3 (a4.trans b4 a5) b2 b3 (Nat.le_trans a5 b5) b7
          | exit i => exact hR (some (.exit i)) Z3 μ3 u3 (a4.trans b4 a5) b2 b3 (Nat.le_trans a5 b5) b7
          | goto i => exact b7.elim
          | panic i => exact b7.elim
          | outgrown => exact b7.elim
        | ret => intro Z2 p2 μ2 s2 u2 a1 a2 a3 a4 a5 _ a7; exact a7.elim
        | exit i => intro Z2 p2 μ2 s2 u2 a1 a2 a3 a4 a5 _ a7; exact a7.elim
        | goto i => intro Z2 p2 μ2 s2 u2 a1 a2 a3 a4 a5 _ a7; exact a7.elim
        | panic i => intro Z2 p2 μ2 s2 u2 a1 a2 a3 a4 a5 _ a7; exact a7.elim
        | outgrown => intro Z2 p2 μ2 s2 u2 a1 a2 a3 a4 a5 _ a7; exact a7.elim
      · intro pc Z' μ' u' e1 e2 e3 e4 hk
        have hr' := hr.mono e1.le
        refine PK_rep (F := fun i => QP (.exit i) p μ') hk (fun ha => (hC.step e1 e4 .normal).now hr' e2 e3 ha) (fun hb => ?_) (fun i hi => (hC.step e1 e4 (.exit i)).now hr' e2 e3 hi)
        cases hh : hasRet y with
        | true => rw [hh] at hb; simp only [cond_true] at hb ⊢; exact (hC.step e1 e4 .ret).now hr' e2 e3 hb
        | false => rw [hh] at hb; exact hb.elim
  | scope x ih => intro fz QP Q p s μ u Z hr hg hw hC h; exact h.elim
  | label l => intro fz QP Q p s μ u Z hr hg hw hC h; exact h.elim
  | goto l => intro fz QP Q p s μ u Z hr hg hw hC h; exact h.elim
  | refuse x => intro fz QP Q p s μ u Z hr hg hw hC h; exact h.elim

/-! ### functions -/
theorem resQ_rep {P : Program} {rw : List Nat} {Z : Fz} {p : PSt} {s : St} {μ : Mem} {u : UW} (hr : Rel2 Z p s) (hg : Good Z u μ) : ∀ {rs : List ResultVar} {FP : List PV → Prop} {F : List Value → Prop}, (∀ ps vs, Reps Z ps vs → FP ps → F vs) → resQP P rw p μ rs FP → resQ P s u rs F
  | [], FP, F, hF, h => hF [] [] (Reps.nil Z) h
  | .tmp t :: rs, FP, F, hF, h => by
    simp only [resQP] at h
    simp only [resQ]
    obtain ⟨hk, h⟩ := bif_elim h
    rw [(hr.slot t).plain hk]
    simp only [cond_true]
    exact resQ_rep hr hg (fun ps vs hps hp => hF _ _ (Reps.cons hk (hr.slot t) hps) hp) h
  | .cell a t :: rs, FP, F, hF, h => by
    simp only [resQP] at h
    simp only [resQ]
    cases hk : kindsV P (memN rw a) t with
    | none => rw [hk] at h; exact h.elim
    | some ks =>
      rw [hk] at h
      rw [kindsV_er hk]
      simp only at h ⊢
      rw [List.length_map]
      have ha := hr.slot a
      split at h
      · rename_i k off he
        rw [he] at ha; rw [ha.ofBox]
        simp only
        rw [← hr.D]
        split at h
        · rename_i m hm
          rw [hm]
          simp only
          obtain ⟨hc, h⟩ := bif_elim h
          simp only [Bool.and_eq_true] at hc
          have hrep := (RepF.rdG (k := k) hr.slot ks.length off).c hc.2
          rw [hc.1, allPlain_of hrep]
          simp only [Bool.and_self, cond_true]
          exact resQ_rep hr hg (fun ps vs hps hp => hF _ _ (Reps.cons (mkP_ok hk (rdGP_length _ _ _ _) hc.2) (mk_rep hrep) hps) hp) h
        · exact h.elim
      · unfold withPtrP at h
        split at h
        · rename_i b off he
          rw [he] at ha
          rw [ha.ofRaw.1]
          show withPtr (.pointer (some ⟨b, off, none⟩)) _
          unfold withPtr
          simp only
          obtain ⟨ps0, hlen, hc, ⟨hrd, h⟩, hex⟩ := exLV_elim (Z := Z) h
          obtain ⟨vs0, hv, hm⟩ := rdM_rep hg hrd
          have hrep := hm.c hc
          exact hex (G := fun us => rd u.heap b off ks.length = some us ∧ resQ P s u rs fun vs => F (mkV (aggT P t) us :: vs)) hrep.m ⟨hv, resQ_rep hr hg (fun ps vs hps hp => hF _ _ (Reps.cons (mkP_ok hk hlen hc) (mk_rep hrep) hps) hp) h⟩
        · exact h.elim

def okFnP (n : Nat) (c : Code) (rs : List ResultVar) (k : Nat) : Bool := okCode n c && Nat.ble n 65536 && rs.all (okRes n) && Nat.ble k n

theorem argF_rep {Z : Fz} {ps : List PV} {vs : List Value} (h : Reps Z ps vs) : RepF Z (argFP ps) (argF vs) := by
  intro t
  unfold argFP argF
  cases hp : ps[t]? with
  | none =>
    have : vs[t]? = none := by
      rw [List.getElem?_eq_none_iff] at hp ⊢; rw [h.1]; exact hp
    rw [this]; exact undef_rep Z
  | some p =>
    obtain ⟨v, hv, _, hr⟩ := h.get hp
    rw [hv]; exact hr

theorem VF_sound {f : FuncId} {fn : Func} {c : Code} {rs : List ResultVar} {args : List PV} {μ : Mem} {R : PV → Mem → Prop} (hf : E.P.funcs[f]? = some fn) (hb : fn.body = some c) (hnt : fn.ntmps = E.n) (hrs : fn.results.toList = rs)
    (hok : okFnP E.n c rs args.length = true) (hcl : callable E.P f = true) (h : VF E c rs args μ R) : CallP E.P f args μ R := by
  intro Z u vs hg hw hvs
  refine ⟨hcl, u.pub, fun _ hb => hb, ?_⟩
  have hokv : okFn E.n c rs vs = true := by
    simp only [okFnP, Bool.and_eq_true] at hok
    simp only [okFn, Bool.and_eq_true]
    refine ⟨⟨hok.1, by rw [hvs.1]; exact hok.2⟩, List.all_eq_true.2 fun v hv => hvs.plains v hv⟩
  have hW : WF E.P E.n E.priv E.er.loops E.er.joins E.er.rngs c rs vs ⟨u.toWorld, u.pub⟩ (fun v u' => ∃ Z' μ' p, Ext Z μ u.heap.size Z' μ' ∧ Good Z' u' μ' ∧ Wf u' ∧ Rep Z' p v ∧ R p μ') := by
    refine V_sound c [] _ _ ⟨argFP args, []⟩ _ μ u Z ⟨rfl, argF_rep hvs⟩ hg hw (fun e => ?_) h
    have fin : ∀ (Z' : Fz) (p' : PSt) (μ' : Mem) (s' : St) (u' : UW), Rel2 Z' p' s' → Good Z' u' μ' → Wf u' → Ext Z μ u.heap.size Z' μ' → resQP E.P E.raws p' μ' rs (tupRP R μ') → resQ E.P s' u' rs (tupR (fun v u' => ∃ Z' μ' p, Ext Z μ u.heap.size Z' μ' ∧ Good Z' u' μ' ∧ Wf u' ∧ Rep Z' p v ∧ R p μ') u') := by
      intro Z' p' μ' s' u' a1 a2 a3 a4 a7
      refine resQ_rep a1 a2 (fun ps vs' hps hR => ?_) a7
      match ps, hps with
      | [], hps => rw [hps.inv0]; exact ⟨Z', μ', _, a4, a2, a3, undef_rep Z', hR⟩
      | [q], hps =>
        obtain ⟨v, vs'', rfl, _, h2, h3⟩ := hps.inv
        rw [h3.inv0]
        exact ⟨Z', μ', _, a4, a2, a3, h2, hR⟩
      | q :: q' :: ps, hps =>
        obtain ⟨v, vs'', rfl, _, _, h3⟩ := id hps.inv
        obtain ⟨v', vs3, rfl, _, _, _⟩ := h3.inv
        exact ⟨Z', μ', _, a4, a2, a3, hps.toTup, hR⟩
    intro Z' p' μ' s' u' a1 a2 a3 a4 a5 _ a7
    cases e with
    | normal => exact fin Z' p' μ' s' u' a1 a2 a3 a4 a7
    | ret => exact fin Z' p' μ' s' u' a1 a2 a3 a4 a7
    | exit i => exact a7.elim
    | goto i => exact a7.elim
    | panic i => exact a7.elim
    | outgrown => exact a7.elim
  refine (WF_sound hf hb hnt hrs hokv (fun b hb => hw b hb) hW).mono fun v lo w' hm hlo hp => ?_
  obtain ⟨pub, hpub, Z', μ', p, e, g', hw', hr, hR⟩ := hp
  refine ⟨Z', μ', p, e, ⟨g'.zok, fun b o ho => ?_⟩, hr, hR⟩
  obtain ⟨p1, p2⟩ := g'.mem b o ho
  refine ⟨fun hrw => ?_, p2⟩
  rcases hpub b (p1 hrw) with h1 | h1
  · exact .inl h1
  · exact .inr ⟨h1, p2.lt⟩

end Go.Eng

/- What functions of the program ask of plain values: printed, and held against the code by the kernel. -/
namespace Go.Proofs.Ytfliaomdedfleaa
open Go.Eng
set_option maxRecDepth 100000
set_option linter.unusedVariables false

/-- ponder/ponderlaw09.TestHolds -/
def G_ponderlaw09_TestHolds.sh (a0 : Int) (a1a : Int) (a1b : ByteArray) (a1c : Int) (a2a : Int) (a2b : ByteArray) (a2c : Int) (u0 : Mem) (R : PV → Mem → Prop) : Prop :=
  CallQ Try.prog 9 [(pI a0), (.agg [(pI a1a), (pS a1b), (pI a1c)]), (.agg [(pI a2a), (pS a2b), (pI a2c)])] u0 fun v u =>
  ∃ (x10 : Bool), v = (pB x10) ∧
  CallP Try.prog 10 [(pI a0), (.agg [(pI a1a), (pS a1b), (pI a1c)]), (.agg [(pI a2a), (pS a2b), (pI a2c)])] (Mem.or u0 u) fun v_1 u_1 =>
  ∃ (x14 : Bool), v_1 = (pB x14) ∧
  CIf (x10 == x14)
  (CallP Try.prog 11 [] u_1 fun v_2 u_2 =>
    ∃ (x17 : Bool), v_2 = (pB x17) ∧
    R (pB x17) u_2)
  (R (pB false) u_1)

theorem G_ponderlaw09_TestHolds.ok (a0 : Int) (a1a : Int) (a1b : ByteArray) (a1c : Int) (a2a : Int) (a2b : ByteArray) (a2c : Int) (u0 : Mem) (R : PV → Mem → Prop) : G_ponderlaw09_TestHolds.sh a0 a1a a1b a1c a2a a2b a2c u0 R = VF ⟨Try.prog, 19, [4, 5], [], [], [], [], [], []⟩ ((Try.f3.body).getD .skip) [.tmp 6] [(pI a0), (.agg [(pI a1a), (pS a1b), (pI a1c)]), (.agg [(pI a2a), (pS a2b), (pI a2c)])] u0 R := by kernel_rfl

theorem G_ponderlaw09_TestHolds.c {a0 : Int} {a1a : Int} {a1b : ByteArray} {a1c : Int} {a2a : Int} {a2b : ByteArray} {a2c : Int} {u0 : Mem} {K : PV → Mem → Prop} (h : G_ponderlaw09_TestHolds.sh a0 a1a a1b a1c a2a a2b a2c u0 K) : CallP Try.prog 3 [(pI a0), (.agg [(pI a1a), (pS a1b), (pI a1c)]), (.agg [(pI a2a), (pS a2b), (pI a2c)])] u0 K :=
  VF_sound (E := ⟨Try.prog, 19, [4, 5], [], [], [], [], [], []⟩) (rs := [.tmp 6]) Try.func3 rfl rfl rfl (by kernel_rfl) (by kernel_rfl) (G_ponderlaw09_TestHolds.ok a0 a1a a1b a1c a2a a2b a2c u0 K ▸ h)


/-- ponder/ponderlaw09.TestOrders -/
def G_ponderlaw09_TestOrders.sh (a0 : Int) (a1 : Int) (a2a : Int) (a2b : ByteArray) (a2c : Int) (u0 : Mem) (R : PV → Mem → Prop) : Prop :=
  CallP Try.prog 12 [(pI a0)] u0 fun v u =>
  ∃ (x13a : Int), ∃ (x13b : ByteArray), ∃ (x13c : Int), v = (.agg [(pI x13a), (pS x13b), (pI x13c)]) ∧
  CallP Try.prog 12 [(pI a1)] u fun v_1 u_1 =>
  ∃ (x15a : Int), ∃ (x15b : ByteArray), ∃ (x15c : Int), v_1 = (.agg [(pI x15a), (pS x15b), (pI x15c)]) ∧
  CallQ Try.prog 9 [(pI (3)), (.agg [(pI x13a), (pS x13b), (pI x13c)]), (.agg [(pI x15a), (pS x15b), (pI x15c)])] u_1 fun v_2 u_2 =>
  ∃ (x18 : Bool), v_2 = (pB x18) ∧
  CallQ Try.prog 9 [(pI (5)), (.agg [(pI x13a), (pS x13b), (pI x13c)]), (.agg [(pI x15a), (pS x15b), (pI x15c)])] (Mem.or u_1 u_2) fun v_3 u_3 =>
  ∃ (x21 : Bool), v_3 = (pB x21) ∧
  CallP Try.prog 9 [(pI (1)), (.agg [(pI x13a), (pS x13b), (pI x13c)]), (.agg [(pI x15a), (pS x15b), (pI x15c)])] (Mem.or (Mem.or u_1 u_2) u_3) fun v_4 u_4 =>
  ∃ (x24 : Bool), v_4 = (pB x24) ∧
  CJoin (α := Unit) (fun J =>
    CIf x18
    (CIf x21
      (R (pB false) u_4)
      (CIf x18
        (CIf x24
          (R (pB false) u_4)
          (CIf x21
            (CIf x24
              (R (pB false) u_4)
              (CIf (!x18)
                (CIf (!x21)
                  (CIf (!x24)
                    (R (pB false) u_4)
                    (J () u_4))
                  (J () u_4))
                (J () u_4)))
            (CIf (!x18)
              (CIf (!x21)
                (CIf (!x24)
                  (R (pB false) u_4)
                  (J () u_4))
                (J () u_4))
              (J () u_4))))
        (CIf x21
          (CIf x24
            (R (pB false) u_4)
            (CIf (!x18)
              (CIf (!x21)
                (CIf (!x24)
                  (R (pB false) u_4)
                  (J () u_4))
                (J () u_4))
              (J () u_4)))
          (CIf (!x18)
            (CIf (!x21)
              (CIf (!x24)
                (R (pB false) u_4)
                (J () u_4))
              (J () u_4))
            (J () u_4)))))
    (CIf x18
      (CIf x24
        (R (pB false) u_4)
        (CIf x21
          (CIf x24
            (R (pB false) u_4)
            (CIf (!x18)
              (CIf (!x21)
                (CIf (!x24)
                  (R (pB false) u_4)
                  (J () u_4))
                (J () u_4))
              (J () u_4)))
          (CIf (!x18)
            (CIf (!x21)
              (CIf (!x24)
                (R (pB false) u_4)
                (J () u_4))
              (J () u_4))
            (J () u_4))))
      (CIf x21
        (CIf x24
          (R (pB false) u_4)
          (CIf (!x18)
            (CIf (!x21)
              (CIf (!x24)
                (R (pB false) u_4)
                (J () u_4))
              (J () u_4))
            (J () u_4)))
        (CIf (!x18)
          (CIf (!x21)
            (CIf (!x24)
              (R (pB false) u_4)
              (J () u_4))
            (J () u_4))
          (J () u_4)))))
  (fun s u_5 =>
    CJoin (α := Unit) (fun J_1 =>
      CallP Try.prog 9 [(pI (4)), (.agg [(pI x13a), (pS x13b), (pI x13c)]), (.agg [(pI x15a), (pS x15b), (pI x15c)])] u_5 fun v_5 u_7 =>
      ∃ (x55 : Bool), v_5 = (pB x55) ∧
      CIf x18
      (CIf (!(x55 == true))
        (R (pB false) u_7)
        (CallP Try.prog 9 [(pI (6)), (.agg [(pI x13a), (pS x13b), (pI x13c)]), (.agg [(pI x15a), (pS x15b), (pI x15c)])] u_7 fun v_6 u_8 =>
          ∃ (x64 : Bool), v_6 = (pB x64) ∧
          CIf x21
          (CIf (!(x64 == true))
            (R (pB false) u_8)
            (CallP Try.prog 9 [(pI (2)), (.agg [(pI x13a), (pS x13b), (pI x13c)]), (.agg [(pI x15a), (pS x15b), (pI x15c)])] u_8 fun v_7 u_9 =>
              ∃ (x74 : Bool), v_7 = (pB x74) ∧
              CIf (x74 == x24)
              (R (pB false) u_9)
              (CallP Try.prog 9 [(pI (7)), (.agg [(pI x13a), (pS x13b), (pI x13c)]), (.agg [(pI x15a), (pS x15b), (pI x15c)])] u_9 fun v_8 u_10 =>
                ∃ (x81 : Bool), v_8 = (pB x81) ∧
                CIf (!x81)
                (R (pB false) u_10)
                (J_1 () u_10))))
          (CIf (!(x64 == x24))
            (R (pB false) u_8)
            (CallP Try.prog 9 [(pI (2)), (.agg [(pI x13a), (pS x13b), (pI x13c)]), (.agg [(pI x15a), (pS x15b), (pI x15c)])] u_8 fun v_9 u_11 =>
              ∃ (x74_1 : Bool), v_9 = (pB x74_1) ∧
              CIf (x74_1 == x24)
              (R (pB false) u_11)
              (CallP Try.prog 9 [(pI (7)), (.agg [(pI x13a), (pS x13b), (pI x13c)]), (.agg [(pI x15a), (pS x15b), (pI x15c)])] u_11 fun v_10 u_12 =>
                ∃ (x81_1 : Bool), v_10 = (pB x81_1) ∧
                CIf (!x81_1)
                (R (pB false) u_12)
                (J_1 () u_12))))))
      (CIf (!(x55 == x24))
        (R (pB false) u_7)
        (CallP Try.prog 9 [(pI (6)), (.agg [(pI x13a), (pS x13b), (pI x13c)]), (.agg [(pI x15a), (pS x15b), (pI x15c)])] u_7 fun v_11 u_13 =>
          ∃ (x64_1 : Bool), v_11 = (pB x64_1) ∧
          CIf x21
          (CIf (!(x64_1 == true))
            (R (pB false) u_13)
            (CallP Try.prog 9 [(pI (2)), (.agg [(pI x13a), (pS x13b), (pI x13c)]), (.agg [(pI x15a), (pS x15b), (pI x15c)])] u_13 fun v_12 u_14 =>
              ∃ (x74_2 : Bool), v_12 = (pB x74_2) ∧
              CIf (x74_2 == x24)
              (R (pB false) u_14)
              (CallP Try.prog 9 [(pI (7)), (.agg [(pI x13a), (pS x13b), (pI x13c)]), (.agg [(pI x15a), (pS x15b), (pI x15c)])] u_14 fun v_13 u_15 =>
                ∃ (x81_2 : Bool), v_13 = (pB x81_2) ∧
                CIf (!x81_2)
                (R (pB false) u_15)
                (J_1 () u_15))))
          (CIf (!(x64_1 == x24))
            (R (pB false) u_13)
            (CallP Try.prog 9 [(pI (2)), (.agg [(pI x13a), (pS x13b), (pI x13c)]), (.agg [(pI x15a), (pS x15b), (pI x15c)])] u_13 fun v_14 u_16 =>
              ∃ (x74_3 : Bool), v_14 = (pB x74_3) ∧
              CIf (x74_3 == x24)
              (R (pB false) u_16)
              (CallP Try.prog 9 [(pI (7)), (.agg [(pI x13a), (pS x13b), (pI x13c)]), (.agg [(pI x15a), (pS x15b), (pI x15c)])] u_16 fun v_15 u_17 =>
                ∃ (x81_3 : Bool), v_15 = (pB x81_3) ∧
                CIf (!x81_3)
                (R (pB false) u_17)
                (J_1 () u_17)))))))
    (fun s_1 u_6 =>
      CIf ((a2a : Int) == (2))
      (CallP Try.prog 11 [] u_6 fun v_16 u_18 =>
        ∃ (x87 : Bool), v_16 = (pB x87) ∧
        R (pB x87) u_18)
      (CallP Try.prog 9 [(pI (3)), (.agg [(pI a2a), (pS a2b), (pI a2c)]), (.agg [(pI x13a), (pS x13b), (pI x13c)])] u_6 fun v_17 u_19 =>
        ∃ (x90 : Bool), v_17 = (pB x90) ∧
        CIf (!x90)
        (CallP Try.prog 9 [(pI (4)), (.agg [(pI a2a), (pS a2b), (pI a2c)]), (.agg [(pI a2a), (pS a2b), (pI a2c)])] u_19 fun v_18 u_20 =>
          ∃ (x95 : Bool), v_18 = (pB x95) ∧
          CIf (!x95)
          (CallP Try.prog 9 [(pI (6)), (.agg [(pI x13a), (pS x13b), (pI x13c)]), (.agg [(pI a2a), (pS a2b), (pI a2c)])] u_20 fun v_19 u_21 =>
            ∃ (x101 : Bool), v_19 = (pB x101) ∧
            CIf (!x101)
            (CallP Try.prog 9 [(pI (7)), (.agg [(pI a2a), (pS a2b), (pI a2c)]), (.agg [(pI x13a), (pS x13b), (pI x13c)])] u_21 fun v_20 u_22 =>
              ∃ (x107 : Bool), v_20 = (pB x107) ∧
              CIf (!x107)
              (CallP Try.prog 9 [(pI (1)), (.agg [(pI a2a), (pS a2b), (pI a2c)]), (.agg [(pI a2a), (pS a2b), (pI a2c)])] u_22 fun v_21 u_23 =>
                ∃ (x113 : Bool), v_21 = (pB x113) ∧
                CIf x113
                (CallP Try.prog 9 [(pI (7)), (.agg [(pI a2a), (pS a2b), (pI a2c)]), (.agg [(pI a2a), (pS a2b), (pI a2c)])] u_23 fun v_22 u_24 =>
                  ∃ (x118 : Bool), v_22 = (pB x118) ∧
                  CIf x118
                  (CallP Try.prog 11 [] u_24 fun v_23 u_25 =>
                    ∃ (x121 : Bool), v_23 = (pB x121) ∧
                    R (pB x121) u_25)
                  (R (pB false) u_24))
                (R (pB false) u_23))
              (R (pB false) u_22))
            (R (pB false) u_21))
          (R (pB false) u_20))
        (R (pB false) u_19))))

theorem G_ponderlaw09_TestOrders.ok (a0 : Int) (a1 : Int) (a2a : Int) (a2b : ByteArray) (a2c : Int) (u0 : Mem) (R : PV → Mem → Prop) : G_ponderlaw09_TestOrders.sh a0 a1 a2a a2b a2c u0 R = VF ⟨Try.prog, 123, [5, 7, 8], [], [(5, ⟨[], []⟩), (7, ⟨[], []⟩)], [], [], [], []⟩ ((Try.f4.body).getD .skip) [.tmp 6] [(pI a0), (pI a1), (.agg [(pI a2a), (pS a2b), (pI a2c)])] u0 R := by kernel_rfl

theorem G_ponderlaw09_TestOrders.c {a0 : Int} {a1 : Int} {a2a : Int} {a2b : ByteArray} {a2c : Int} {u0 : Mem} {K : PV → Mem → Prop} (h : G_ponderlaw09_TestOrders.sh a0 a1 a2a a2b a2c u0 K) : CallP Try.prog 4 [(pI a0), (pI a1), (.agg [(pI a2a), (pS a2b), (pI a2c)])] u0 K :=
  VF_sound (E := ⟨Try.prog, 123, [5, 7, 8], [], [(5, ⟨[], []⟩), (7, ⟨[], []⟩)], [], [], [], []⟩) (rs := [.tmp 6]) Try.func4 rfl rfl rfl (by kernel_rfl) (by kernel_rfl) (G_ponderlaw09_TestOrders.ok a0 a1 a2a a2b a2c u0 K ▸ h)


/-- ponder/ponderlaw09.TestGets -/
def G_ponderlaw09_TestGets.sh (a0f : Fl) (a0 : List (List PV)) (a1 : ByteArray) (u0 : Mem) (R : PV → Mem → Prop) : Prop :=
  CIf (decide ((((List.length a0 : Nat) : Int) : Int) > (100)))
  (CallP Try.prog 11 [] u0 fun v u =>
    ∃ (x17 : Bool), v = (pB x17) ∧
    R (pB x17) u)
  (LoopI (α := Int) (fun next s u_1 =>
      CIf (decide ((s : Int) < ((List.length a0 : Nat) : Int)))
      ((0 : Int) ≤ s ∧ ∃ (r28 : List PV), (a0)[Int.toNat s]? = some r28 ∧
        ∃ (x30 : ByteArray), rowM r28 0 1 = some [(pS x30)] ∧
        CallP Try.prog 17 [(.list 4 a0f a0), (pS x30)] u_1 fun v_1 u_2 =>
        ∃ (x31pa : Int), ∃ (x31pb : ByteArray), ∃ (x31pc : Int), ∃ (x31q : Bool), v_1 = (.tup [(.agg [(pI x31pa), (pS x31pb), (pI x31pc)]), (pB x31q)]) ∧
        (0 : Int) ≤ s ∧ ∃ (r38 : List PV), (a0)[Int.toNat s]? = some r38 ∧
        ∃ (x40 : ByteArray), rowM r38 0 1 = some [(pS x40)] ∧
        CallP Try.prog 18 [(.list 4 a0f a0), (pS x40)] u_2 fun v_2 u_3 =>
        ∃ (x41pa : Int), ∃ (x41pb : ByteArray), ∃ (x41pc : Int), ∃ (x41q : Bool), v_2 = (.tup [(.agg [(pI x41pa), (pS x41pb), (pI x41pc)]), (pB x41q)]) ∧
        CIf (!x31q)
        (R (pB false) u_3)
        (CIf (!x41q)
          (R (pB false) u_3)
          (CIf (!((x31pa == x41pa) && (strEq x31pb x41pb && ((x31pc == x41pc) && true))))
            (R (pB false) u_3)
            (next (IntKind.wrap .i64 (s + (1))) u_3))))
      (CallP Try.prog 17 [(.list 4 a0f a0), (pS a1)] u_1 fun v_3 u_4 =>
        ∃ (x58pa : Int), ∃ (x58pb : ByteArray), ∃ (x58pc : Int), ∃ (x58q : Bool), v_3 = (.tup [(.agg [(pI x58pa), (pS x58pb), (pI x58pc)]), (pB x58q)]) ∧
        CallP Try.prog 18 [(.list 4 a0f a0), (pS a1)] u_4 fun v_4 u_5 =>
        ∃ (x64pa : Int), ∃ (x64pb : ByteArray), ∃ (x64pc : Int), ∃ (x64q : Bool), v_4 = (.tup [(.agg [(pI x64pa), (pS x64pb), (pI x64pc)]), (pB x64q)]) ∧
        CIf ((x58pa == x64pa) && (strEq x58pb x64pb && ((x58pc == x64pc) && true)))
        (CIf (x58q == x64q)
          (CallP Try.prog 11 [] u_5 fun v_5 u_6 =>
            ∃ (x76 : Bool), v_5 = (pB x76) ∧
            R (pB x76) u_6)
          (R (pB false) u_5))
        (R (pB false) u_5)))
    (0) u0)

theorem G_ponderlaw09_TestGets.ok (a0f : Fl) (a0 : List (List PV)) (a1 : ByteArray) (u0 : Mem) (R : PV → Mem → Prop) : G_ponderlaw09_TestGets.sh a0f a0 a1 u0 R = VF ⟨Try.prog, 78, [6, 8, 10, 12], [(4, ⟨[(5, .one (.raw (.int .i64)))], []⟩)], [], [], [], [], []⟩ ((Try.f6.body).getD .skip) [.tmp 4] [(.list 4 a0f a0), (pS a1)] u0 R := by kernel_rfl

theorem G_ponderlaw09_TestGets.c {a0f : Fl} {a0 : List (List PV)} {a1 : ByteArray} {u0 : Mem} {K : PV → Mem → Prop} (h : G_ponderlaw09_TestGets.sh a0f a0 a1 u0 K) : CallP Try.prog 6 [(.list 4 a0f a0), (pS a1)] u0 K :=
  VF_sound (E := ⟨Try.prog, 78, [6, 8, 10, 12], [(4, ⟨[(5, .one (.raw (.int .i64)))], []⟩)], [], [], [], [], []⟩) (rs := [.tmp 4]) Try.func6 rfl rfl rfl (by kernel_rfl) (by kernel_rfl) (G_ponderlaw09_TestGets.ok a0f a0 a1 u0 K ▸ h)


/-- ponder/ponderlaw09.TestStays -/
def G_ponderlaw09_TestStays.sh (a0a : Int) (a0b : Bool) (a0c : ByteArray) (a0df : Fl) (a0d : List (List PV)) (a0ef : Fl) (a0e : List (List PV)) (a0f : Bool) (a0gf : Fl) (a0g : List (List PV)) (a1a : Int) (a1b : ByteArray) (a1c : Int) (a1d : Int) (a1e : ByteArray) (a1f : Int) (a1g : Int) (a1h : ByteArray) (a1i : Int) (a1j : Bool) (a1k : Bool) (a1l : Int) (a2f : Fl) (a2 : List (List PV)) (u0 : Mem) (R : PV → Mem → Prop) : Prop :=
  CallP Try.prog 19 [(.agg [(pI a0a), (pB a0b), (pS a0c), (.list 6 .sh a0d), (.list 6 .sh a0e), (pB a0f), (.list 7 .sh a0g)]), (.list 4 a2f a2)] u0 fun v u =>
  ∃ (x13 : Bool), v = (pB x13) ∧
  CIf x13
  (CallP Try.prog 11 [] u fun v_1 u_1 =>
    ∃ (x14 : Bool), v_1 = (pB x14) ∧
    R (pB x14) u_1)
  (CallP Try.prog 20 [(.agg [(pI a0a), (pB a0b), (pS a0c), (.list 6 .sh a0d), (.list 6 .sh a0e), (pB a0f), (.list 7 .sh a0g)]), (.agg [(pI a1a), (pS a1b), (pI a1c), (pI a1d), (pS a1e), (pI a1f), (pI a1g), (pS a1h), (pI a1i), (pB a1j), (pB a1k), (pI a1l)]), (.list 4 a2f a2)] u fun v_2 u_2 =>
    ∃ (x19pf : Fl) (x19p : List (List PV)), ∃ (x19q : Bool), v_2 = (.tup [(.list 4 x19pf x19p), (pB x19q)]) ∧
    CIf (!x19q)
    (CIf ((((List.length x19p : Nat) : Int) : Int) == (0))
      (CallP Try.prog 11 [] u_2 fun v_3 u_3 =>
        ∃ (x28 : Bool), v_3 = (pB x28) ∧
        R (pB x28) u_3)
      (R (pB false) u_2))
    (CIf (decide ((((List.length x19p : Nat) : Int) : Int) < ((List.length a2 : Nat) : Int)))
      (R (pB false) u_2)
      ((0 : Int) ≤ (0 : Int) ∧ (0 : Int) ≤ ((List.length a2 : Nat) : Int) ∧ ((List.length a2 : Nat) : Int) ≤ ((List.length x19p : Nat) : Int) ∧ 
        CallP Try.prog 16 [(.list 4 .sh (List.drop (Int.toNat (0 : Int)) (List.take (Int.toNat ((List.length a2 : Nat) : Int)) x19p))), (.list 4 a2f a2)] u_2 fun v_4 u_4 =>
        ∃ (x41 : Bool), v_4 = (pB x41) ∧
        CIf (!x41)
        (R (pB false) u_4)
        (CallP Try.prog 20 [(.agg [(pI a0a), (pB a0b), (pS a0c), (.list 6 .sh a0d), (.list 6 .sh a0e), (pB a0f), (.list 7 .sh a0g)]), (.agg [(pI a1a), (pS a1b), (pI a1c), (pI a1d), (pS a1e), (pI a1f), (pI a1g), (pS a1h), (pI a1i), (pB a1j), (pB a1k), (pI a1l)]), (.list 4 x19pf x19p)] u_4 fun v_5 u_5 =>
          ∃ (x48pf : Fl) (x48p : List (List PV)), ∃ (x48q : Bool), v_5 = (.tup [(.list 4 x48pf x48p), (pB x48q)]) ∧
          CIf x48q
          (CallP Try.prog 16 [(.list 4 x19pf x19p), (.list 4 x48pf x48p)] u_5 fun v_6 u_6 =>
            ∃ (x55 : Bool), v_6 = (pB x55) ∧
            CIf x55
            (CallP Try.prog 11 [] u_6 fun v_7 u_7 =>
              ∃ (x58 : Bool), v_7 = (pB x58) ∧
              R (pB x58) u_7)
            (R (pB false) u_6))
          (R (pB false) u_5)))))

theorem G_ponderlaw09_TestStays.ok (a0a : Int) (a0b : Bool) (a0c : ByteArray) (a0df : Fl) (a0d : List (List PV)) (a0ef : Fl) (a0e : List (List PV)) (a0f : Bool) (a0gf : Fl) (a0g : List (List PV)) (a1a : Int) (a1b : ByteArray) (a1c : Int) (a1d : Int) (a1e : ByteArray) (a1f : Int) (a1g : Int) (a1h : ByteArray) (a1i : Int) (a1j : Bool) (a1k : Bool) (a1l : Int) (a2f : Fl) (a2 : List (List PV)) (u0 : Mem) (R : PV → Mem → Prop) : G_ponderlaw09_TestStays.sh a0a a0b a0c a0df a0d a0ef a0e a0f a0gf a0g a1a a1b a1c a1d a1e a1f a1g a1h a1i a1j a1k a1l a2f a2 u0 R = VF ⟨Try.prog, 60, [3, 4], [], [], [], [], [], []⟩ ((Try.f7.body).getD .skip) [.tmp 6] [(.agg [(pI a0a), (pB a0b), (pS a0c), (.list 6 a0df a0d), (.list 6 a0ef a0e), (pB a0f), (.list 7 a0gf a0g)]), (.agg [(pI a1a), (pS a1b), (pI a1c), (pI a1d), (pS a1e), (pI a1f), (pI a1g), (pS a1h), (pI a1i), (pB a1j), (pB a1k), (pI a1l)]), (.list 4 a2f a2)] u0 R := by kernel_rfl

theorem G_ponderlaw09_TestStays.c {a0a : Int} {a0b : Bool} {a0c : ByteArray} {a0df : Fl} {a0d : List (List PV)} {a0ef : Fl} {a0e : List (List PV)} {a0f : Bool} {a0gf : Fl} {a0g : List (List PV)} {a1a : Int} {a1b : ByteArray} {a1c : Int} {a1d : Int} {a1e : ByteArray} {a1f : Int} {a1g : Int} {a1h : ByteArray} {a1i : Int} {a1j : Bool} {a1k : Bool} {a1l : Int} {a2f : Fl} {a2 : List (List PV)} {u0 : Mem} {K : PV → Mem → Prop} (h : G_ponderlaw09_TestStays.sh a0a a0b a0c a0df a0d a0ef a0e a0f a0gf a0g a1a a1b a1c a1d a1e a1f a1g a1h a1i a1j a1k a1l a2f a2 u0 K) : CallP Try.prog 7 [(.agg [(pI a0a), (pB a0b), (pS a0c), (.list 6 a0df a0d), (.list 6 a0ef a0e), (pB a0f), (.list 7 a0gf a0g)]), (.agg [(pI a1a), (pS a1b), (pI a1c), (pI a1d), (pS a1e), (pI a1f), (pI a1g), (pS a1h), (pI a1i), (pB a1j), (pB a1k), (pI a1l)]), (.list 4 a2f a2)] u0 K :=
  VF_sound (E := ⟨Try.prog, 60, [3, 4], [], [], [], [], [], []⟩) (rs := [.tmp 6]) Try.func7 rfl rfl rfl (by kernel_rfl) (by kernel_rfl) (G_ponderlaw09_TestStays.ok a0a a0b a0c a0df a0d a0ef a0e a0f a0gf a0g a1a a1b a1c a1d a1e a1f a1g a1h a1i a1j a1k a1l a2f a2 u0 K ▸ h)


/-- ponder/ponderlaw09.TestSome -/
def G_ponderlaw09_TestSome.sh (a0a : Int) (a0b : Bool) (a0c : ByteArray) (a0df : Fl) (a0d : List (List PV)) (a0ef : Fl) (a0e : List (List PV)) (a0f : Bool) (a0gf : Fl) (a0g : List (List PV)) (a1f : Fl) (a1 : List (List PV)) (a2f : Fl) (a2 : List (List PV)) (a3 : Int) (u0 : Mem) (R : PV → Mem → Prop) : Prop :=
  ∀ (b7 : Nat), u0 b7 = none →
  ∀ (b8 : Nat), (Mem.set u0 b7 (some (.cells 3 [(pI a3)]))) b8 = none →
  CJoin (α := Bool) (fun J =>
    CallP Try.prog 19 [(.agg [(pI a0a), (pB a0b), (pS a0c), (.list 6 .sh a0d), (.list 6 .sh a0e), (pB a0f), (.list 7 .sh a0g)]), (.list 4 a2f a2)] (Mem.set (Mem.set u0 b7 (some (.cells 3 [(pI a3)]))) b8 (some (.cells 4 [(pB false)]))) fun v u_1 =>
    ∃ (x22 : Bool), v = (pB x22) ∧
    CIf x22
    (J true u_1)
    (J (decide ((((List.length a1 : Nat) : Int) : Int) > (40))) u_1))
  (fun s u =>
    CIf s
    (CallP Try.prog 11 [] u fun v_1 u_2 =>
      ∃ (x28 : Bool), v_1 = (pB x28) ∧
      stM b8 0 [(pB x28)] u_2 fun u_3 =>
      ∃ (r0 : Bool), rdM u_3 b8 0 1 = some [(pB r0)] ∧
      R (pB r0) u_3)
    (∀ (b9 : Nat), u b9 = none →
      ∀ (b10 : Nat), (Mem.set u b9 (some (.cells 51 [(.list 12 .nil [])]))) b10 = none →
      LoopI (α := Int) (fun next s_1 u_4 =>
        CIf (decide ((s_1 : Int) < ((List.length a1 : Nat) : Int)))
        ((0 : Int) ≤ s_1 ∧ ∃ (r39 : List PV), (a1)[Int.toNat s_1]? = some r39 ∧
          ∃ (x40a : Int), ∃ (x40b : ByteArray), ∃ (x40c : Int), ∃ (x40d : Int), ∃ (x40e : ByteArray), ∃ (x40f : Int), ∃ (x40g : Int), ∃ (x40h : ByteArray), ∃ (x40i : Int), ∃ (x40j : Bool), ∃ (x40k : Bool), ∃ (x40l : Int), rowM r39 0 12 = some [(pI x40a), (pS x40b), (pI x40c), (pI x40d), (pS x40e), (pI x40f), (pI x40g), (pS x40h), (pI x40i), (pB x40j), (pB x40k), (pI x40l)] ∧
          CallP Try.prog 21 [(.agg [(pI a0a), (pB a0b), (pS a0c), (.list 6 .sh a0d), (.list 6 .sh a0e), (pB a0f), (.list 7 .sh a0g)]), (.agg [(pI x40a), (pS x40b), (pI x40c), (pI x40d), (pS x40e), (pI x40f), (pI x40g), (pS x40h), (pI x40i), (pB x40j), (pB x40k), (pI x40l)]), (.list 4 a2f a2)] u_4 fun v_2 u_5 =>
          ∃ (x42pf : Fl) (x42p : List (List PV)), ∃ (x42q : Bool), v_2 = (.tup [(.list 4 x42pf x42p), (pB x42q)]) ∧
          CIf x42q
          (∃ (x46f : Fl) (x46 : List (List PV)), rdM u_5 b9 0 1 = some [(.list 12 x46f x46)] ∧
            (0 : Int) ≤ s_1 ∧ ∃ (r49 : List PV), (a1)[Int.toNat s_1]? = some r49 ∧
            ∃ (x50a : Int), ∃ (x50b : ByteArray), ∃ (x50c : Int), ∃ (x50d : Int), ∃ (x50e : ByteArray), ∃ (x50f : Int), ∃ (x50g : Int), ∃ (x50h : ByteArray), ∃ (x50i : Int), ∃ (x50j : Bool), ∃ (x50k : Bool), ∃ (x50l : Int), rowM r49 0 12 = some [(pI x50a), (pS x50b), (pI x50c), (pI x50d), (pS x50e), (pI x50f), (pI x50g), (pS x50h), (pI x50i), (pB x50j), (pB x50k), (pI x50l)] ∧
            appL false 12 112 x46f x46 [[(pI x50a), (pS x50b), (pI x50c), (pI x50d), (pS x50e), (pI x50f), (pI x50g), (pS x50h), (pI x50i), (pB x50j), (pB x50k), (pI x50l)]] u_5 fun f52 u_6 =>
            stM b9 0 [(.list 12 f52 (x46 ++ [[(pI x50a), (pS x50b), (pI x50c), (pI x50d), (pS x50e), (pI x50f), (pI x50g), (pS x50h), (pI x50i), (pB x50j), (pB x50k), (pI x50l)]]))] u_6 fun u_7 =>
            ∃ (x53f : Fl) (x53 : List (List PV)), rdM u_7 b10 0 1 = some [(.list 1 x53f x53)] ∧
            appL false 1 24 x53f x53 [[(.list 4 .sh x42p)]] u_7 fun f56 u_8 =>
            stM b10 0 [(.list 1 f56 (x53 ++ [[(.list 4 .sh x42p)]]))] u_8 fun u_9 =>
            next (IntKind.wrap .i64 (s_1 + (1))) u_9)
          (next (IntKind.wrap .i64 (s_1 + (1))) u_5))
        (∀ (b14 : Nat), u_4 b14 = none →
          stM b14 0 [(pI (0))] (Mem.set u_4 b14 (some (.cells 3 [(pI (0))]))) fun u_10 =>
          CallQ Try.prog 23 [(.list 12 a1f a1)] u_10 fun v_3 u_11 =>
          ∃ (x59 : Fn) (x59a x59b : List PV), v_3 = (.fn x59 x59a x59b) ∧
          CallP Try.prog 22 [(.agg [(pI a0a), (pB a0b), (pS a0c), (.list 6 .sh a0d), (.list 6 .sh a0e), (pB a0f), (.list 7 .sh a0g)]), (.fn x59 x59a x59b), (.list 4 a2f a2)] (Mem.or u_10 u_11) fun v_4 u_12 =>
          ∃ (x61 : Fn) (x61a x61b : List PV), v_4 = (.fn x61 x61a x61b) ∧
          RangeP Try.prog (.fn x61 x61a x61b) (fun vs RR u_13 =>
            ∃ (x65a : Int), ∃ (x65b : ByteArray), ∃ (x65c : Int), ∃ (x65d : Int), ∃ (x65e : ByteArray), ∃ (x65f : Int), ∃ (x65g : Int), ∃ (x65h : ByteArray), ∃ (x65i : Int), ∃ (x65j : Bool), ∃ (x65k : Bool), ∃ (x65l : Int), ∃ (x66 : Option Addr) (x66n x66c : Nat), vs = [(.agg [(pI x65a), (pS x65b), (pI x65c), (pI x65d), (pS x65e), (pI x65f), (pI x65g), (pS x65h), (pI x65i), (pB x65j), (pB x65k), (pI x65l)]), (.raw (.slice x66 x66n x66c))] ∧
            ∃ (x67 : Int), rdM u_13 b14 0 1 = some [(pI x67)] ∧
            ∃ (x68f : Fl) (x68 : List (List PV)), rdM u_13 b9 0 1 = some [(.list 12 x68f x68)] ∧
            CIf (decide ((x67 : Int) ≥ ((List.length x68 : Nat) : Int)))
            (stM b8 0 [(pB false)] u_13 fun u_15 =>
              RR (some .ret) u_15)
            (∃ (x73f : Fl) (x73 : List (List PV)), rdM u_13 b9 0 1 = some [(.list 12 x73f x73)] ∧
              ∃ (x74 : Int), rdM u_13 b14 0 1 = some [(pI x74)] ∧
              (0 : Int) ≤ x74 ∧ ∃ (r75 : List PV), (x73)[Int.toNat x74]? = some r75 ∧
              ∃ (x76a : Int), ∃ (x76b : ByteArray), ∃ (x76c : Int), ∃ (x76d : Int), ∃ (x76e : ByteArray), ∃ (x76f : Int), ∃ (x76g : Int), ∃ (x76h : ByteArray), ∃ (x76i : Int), ∃ (x76j : Bool), ∃ (x76k : Bool), ∃ (x76l : Int), rowM r75 0 12 = some [(pI x76a), (pS x76b), (pI x76c), (pI x76d), (pS x76e), (pI x76f), (pI x76g), (pS x76h), (pI x76i), (pB x76j), (pB x76k), (pI x76l)] ∧
              CIf (!((x65a == x76a) && (strEq x65b x76b && ((x65c == x76c) && ((x65d == x76d) && (strEq x65e x76e && ((x65f == x76f) && ((x65g == x76g) && (strEq x65h x76h && ((x65i == x76i) && ((x65j == x76j) && ((x65k == x76k) && ((x65l == x76l) && true)))))))))))))
              (stM b8 0 [(pB false)] u_13 fun u_16 =>
                RR (some .ret) u_16)
              (∃ (x81f : Fl) (x81 : List (List PV)), rdM u_13 b10 0 1 = some [(.list 1 x81f x81)] ∧
                ∃ (x82 : Int), rdM u_13 b14 0 1 = some [(pI x82)] ∧
                (0 : Int) ≤ x82 ∧ ∃ (r83 : List PV), (x81)[Int.toNat x82]? = some r83 ∧
                ∃ (x84f : Fl) (x84 : List (List PV)), rowM r83 0 1 = some [(.list 4 x84f x84)] ∧
                CallP Try.prog 16 [(.raw (.slice x66 x66n x66c)), (.list 4 x84f x84)] u_13 fun v_5 u_17 =>
                ∃ (x85 : Bool), v_5 = (pB x85) ∧
                CIf (!x85)
                (stM b8 0 [(pB false)] u_17 fun u_18 =>
                  RR (some .ret) u_18)
                (LoopI (α := Int) (fun next_1 s_2 u_19 =>
                    CIf (decide ((s_2 : Int) < ((x66n : Nat) : Int)))
                    (withSl x66 fun b o =>
                      (0 : Int) ≤ s_2 ∧ s_2 < ((x66n : Nat) : Int) ∧
                      stM b (o + Int.toNat s_2 * 4) [(pS ⟨#[103, 111, 110, 101]⟩)] u_19 fun u_20 =>
                      next_1 (IntKind.wrap .i64 (s_2 + (1))) u_20)
                    (∃ (x98 : Int), rdM u_19 b14 0 1 = some [(pI x98)] ∧
                      stM b14 0 [(pI (IntKind.wrap .i64 (x98 + (1))))] u_19 fun u_21 =>
                      RR none u_21))
                  (0) u_17))))
          (fun p u_14 =>
            PK p
            (∃ (x100 : Int), rdM u_14 b7 0 1 = some [(pI x100)] ∧
              ∃ (x101f : Fl) (x101 : List (List PV)), rdM u_14 b9 0 1 = some [(.list 12 x101f x101)] ∧
              CallP Try.prog 24 [(pI x100), (pI (IntKind.wrap .i64 (((List.length x101 : Nat) : Int) + (1))))] u_14 fun v_6 u_22 =>
              ∃ (x104 : Int), v_6 = (pI x104) ∧
              stM b7 0 [(pI x104)] u_22 fun u_23 =>
              ∀ (b19 : Nat), u_23 b19 = none →
              stM b19 0 [(pI (0))] (Mem.set u_23 b19 (some (.cells 3 [(pI (0))]))) fun u_24 =>
              CJoin (α := Unit) (fun J_1 =>
                RangeP Try.prog (.fn x61 x61a x61b) (fun vs_1 RR_1 u_26 =>
                  ∃ (x106a : Int), ∃ (x106b : ByteArray), ∃ (x106c : Int), ∃ (x106d : Int), ∃ (x106e : ByteArray), ∃ (x106f : Int), ∃ (x106g : Int), ∃ (x106h : ByteArray), ∃ (x106i : Int), ∃ (x106j : Bool), ∃ (x106k : Bool), ∃ (x106l : Int), ∃ (x107 : Option Addr) (x107n x107c : Nat), vs_1 = [(.agg [(pI x106a), (pS x106b), (pI x106c), (pI x106d), (pS x106e), (pI x106f), (pI x106g), (pS x106h), (pI x106i), (pB x106j), (pB x106k), (pI x106l)]), (.raw (.slice x107 x107n x107c))] ∧
                  ∃ (x108 : Int), rdM u_26 b19 0 1 = some [(pI x108)] ∧
                  ∃ (x109 : Int), rdM u_26 b7 0 1 = some [(pI x109)] ∧
                  CIf ((x108 : Int) == x109)
                  (RR_1 (some (.exit 6)) u_26)
                  (∃ (x111 : Int), rdM u_26 b19 0 1 = some [(pI x111)] ∧
                    stM b19 0 [(pI (IntKind.wrap .i64 (x111 + (1))))] u_26 fun u_28 =>
                    RR_1 none u_28))
                (fun p_1 u_27 =>
                  PK p_1
                  (J_1 () u_27)
                  (False)
                  [(6, (J_1 () u_27))])
                u_24)
              (fun s_3 u_25 =>
                ∃ (x113 : Int), rdM u_25 b14 0 1 = some [(pI x113)] ∧
                ∃ (x114f : Fl) (x114 : List (List PV)), rdM u_25 b9 0 1 = some [(.list 12 x114f x114)] ∧
                CIf ((x113 : Int) == ((List.length x114 : Nat) : Int))
                (∃ (x118 : Int), rdM u_25 b19 0 1 = some [(pI x118)] ∧
                  ∃ (x119 : Int), rdM u_25 b7 0 1 = some [(pI x119)] ∧
                  CIf ((x118 : Int) == x119)
                  (CallP Try.prog 11 [] u_25 fun v_7 u_29 =>
                    ∃ (x123 : Bool), v_7 = (pB x123) ∧
                    stM b8 0 [(pB x123)] u_29 fun u_30 =>
                    ∃ (r0_1 : Bool), rdM u_30 b8 0 1 = some [(pB r0_1)] ∧
                    R (pB r0_1) u_30)
                  (stM b8 0 [(pB false)] u_25 fun u_31 =>
                    ∃ (r0_2 : Bool), rdM u_31 b8 0 1 = some [(pB r0_2)] ∧
                    R (pB r0_2) u_31))
                (stM b8 0 [(pB false)] u_25 fun u_32 =>
                  ∃ (r0_3 : Bool), rdM u_32 b8 0 1 = some [(pB r0_3)] ∧
                  R (pB r0_3) u_32)))
            (∃ (r0_4 : Bool), rdM u_14 b8 0 1 = some [(pB r0_4)] ∧
              R (pB r0_4) u_14)
            [])
          u_12))
      (0) (Mem.set (Mem.set u b9 (some (.cells 51 [(.list 12 .nil [])]))) b10 (some (.cells 52 [(.list 1 .nil [])])))))

theorem G_ponderlaw09_TestSome.ok (a0a : Int) (a0b : Bool) (a0c : ByteArray) (a0df : Fl) (a0d : List (List PV)) (a0ef : Fl) (a0e : List (List PV)) (a0f : Bool) (a0gf : Fl) (a0g : List (List PV)) (a1f : Fl) (a1 : List (List PV)) (a2f : Fl) (a2 : List (List PV)) (a3 : Int) (u0 : Mem) (R : PV → Mem → Prop) : G_ponderlaw09_TestSome.sh a0a a0b a0c a0df a0d a0ef a0e a0f a0gf a0g a1f a1 a2f a2 a3 u0 R = VF ⟨Try.prog, 125, [4, 16], [(6, ⟨[(11, .one (.raw (.int .i64)))], []⟩), (22, ⟨[(18, .one (.raw (.int .i64)))], []⟩)], [(2, ⟨[(27, .one (.raw .bool))], []⟩), (31, ⟨[], []⟩)], [(65, [47, 31]), (106, [47, 31])], [], [], [17, 65, 66, 80, 89, 94, 106, 107]⟩ ((Try.f8.body).getD .skip) [.cell 8 4] [(.agg [(pI a0a), (pB a0b), (pS a0c), (.list 6 a0df a0d), (.list 6 a0ef a0e), (pB a0f), (.list 7 a0gf a0g)]), (.list 12 a1f a1), (.list 4 a2f a2), (pI a3)] u0 R := by kernel_rfl

theorem G_ponderlaw09_TestSome.c {a0a : Int} {a0b : Bool} {a0c : ByteArray} {a0df : Fl} {a0d : List (List PV)} {a0ef : Fl} {a0e : List (List PV)} {a0f : Bool} {a0gf : Fl} {a0g : List (List PV)} {a1f : Fl} {a1 : List (List PV)} {a2f : Fl} {a2 : List (List PV)} {a3 : Int} {u0 : Mem} {K : PV → Mem → Prop} (h : G_ponderlaw09_TestSome.sh a0a a0b a0c a0df a0d a0ef a0e a0f a0gf a0g a1f a1 a2f a2 a3 u0 K) : CallP Try.prog 8 [(.agg [(pI a0a), (pB a0b), (pS a0c), (.list 6 a0df a0d), (.list 6 a0ef a0e), (pB a0f), (.list 7 a0gf a0g)]), (.list 12 a1f a1), (.list 4 a2f a2), (pI a3)] u0 K :=
  VF_sound (E := ⟨Try.prog, 125, [4, 16], [(6, ⟨[(11, .one (.raw (.int .i64)))], []⟩), (22, ⟨[(18, .one (.raw (.int .i64)))], []⟩)], [(2, ⟨[(27, .one (.raw .bool))], []⟩), (31, ⟨[], []⟩)], [(65, [47, 31]), (106, [47, 31])], [], [], [17, 65, 66, 80, 89, 94, 106, 107]⟩) (rs := [.cell 8 4]) Try.func8 rfl rfl rfl (by kernel_rfl) (by kernel_rfl) (G_ponderlaw09_TestSome.ok a0a a0b a0c a0df a0d a0ef a0e a0f a0gf a0g a1f a1 a2f a2 a3 u0 K ▸ h)


/-- ponder/test.Holds -/
def G_test_Holds.sh (a0 : Int) (a1a : Int) (a1b : ByteArray) (a1c : Int) (a2a : Int) (a2b : ByteArray) (a2c : Int) (u0 : Mem) (R : PV → Mem → Prop) : Prop :=
  CJoin (α := Bool) (fun J =>
    CIf ((a1a : Int) == (2))
    (J ((a2a : Int) == (2)) u0)
    (J false u0))
  (fun s u =>
    CIf ((a0 : Int) == (1))
    (R (pB ((a1a == a2a) && (strEq a1b a2b && ((a1c == a2c) && true)))) u)
    (CIf ((a0 : Int) == (2))
      (R (pB (!((a1a == a2a) && (strEq a1b a2b && ((a1c == a2c) && true))))) u)
      (CIf ((a0 : Int) == (3))
        (CIf s
          (R (pB (decide ((a1c : Int) < a2c))) u)
          (R (pB false) u))
        (CIf ((a0 : Int) == (4))
          (CIf s
            (R (pB (decide ((a1c : Int) ≤ a2c))) u)
            (R (pB false) u))
          (CIf ((a0 : Int) == (5))
            (CIf s
              (R (pB (decide ((a1c : Int) > a2c))) u)
              (R (pB false) u))
            (CIf ((a0 : Int) == (6))
              (CIf s
                (R (pB (decide ((a1c : Int) ≥ a2c))) u)
                (R (pB false) u))
              (CIf ((a0 : Int) == (7))
                (R (pB ((a1a : Int) == a2a)) u)
                (R (pB false) u))))))))

theorem G_test_Holds.ok (a0 : Int) (a1a : Int) (a1b : ByteArray) (a1c : Int) (a2a : Int) (a2b : ByteArray) (a2c : Int) (u0 : Mem) (R : PV → Mem → Prop) : G_test_Holds.sh a0 a1a a1b a1c a2a a2b a2c u0 R = VF ⟨Try.prog, 74, [4, 5], [], [(2, ⟨[(7, .one (.raw .bool))], []⟩)], [], [], [], []⟩ ((Try.f9.body).getD .skip) [.tmp 6] [(pI a0), (.agg [(pI a1a), (pS a1b), (pI a1c)]), (.agg [(pI a2a), (pS a2b), (pI a2c)])] u0 R := by kernel_rfl

theorem G_test_Holds.c {a0 : Int} {a1a : Int} {a1b : ByteArray} {a1c : Int} {a2a : Int} {a2b : ByteArray} {a2c : Int} {u0 : Mem} {K : PV → Mem → Prop} (h : G_test_Holds.sh a0 a1a a1b a1c a2a a2b a2c u0 K) : CallP Try.prog 9 [(pI a0), (.agg [(pI a1a), (pS a1b), (pI a1c)]), (.agg [(pI a2a), (pS a2b), (pI a2c)])] u0 K :=
  VF_sound (E := ⟨Try.prog, 74, [4, 5], [], [(2, ⟨[(7, .one (.raw .bool))], []⟩)], [], [], [], []⟩) (rs := [.tmp 6]) Try.func9 rfl rfl rfl (by kernel_rfl) (by kernel_rfl) (G_test_Holds.ok a0 a1a a1b a1c a2a a2b a2c u0 K ▸ h)


/-- ponder/ponderref09.Holds -/
def G_ponderref09_Holds.sh (a0 : Int) (a1a : Int) (a1b : ByteArray) (a1c : Int) (a2a : Int) (a2b : ByteArray) (a2c : Int) (u0 : Mem) (R : PV → Mem → Prop) : Prop :=
  CJoin (α := Bool) (fun J =>
    CIf ((a1a : Int) == (2))
    (J ((a2a : Int) == (2)) u0)
    (J false u0))
  (fun s u =>
    CIf ((a0 : Int) == (1))
    (R (pB ((a1a == a2a) && (strEq a1b a2b && ((a1c == a2c) && true)))) u)
    (CIf ((a0 : Int) == (2))
      (R (pB (!((a1a == a2a) && (strEq a1b a2b && ((a1c == a2c) && true))))) u)
      (CIf ((a0 : Int) == (3))
        (CIf s
          (R (pB (decide ((a1c : Int) < a2c))) u)
          (R (pB false) u))
        (CIf ((a0 : Int) == (4))
          (CIf s
            (R (pB (decide ((a1c : Int) ≤ a2c))) u)
            (R (pB false) u))
          (CIf ((a0 : Int) == (5))
            (CIf s
              (R (pB (decide ((a1c : Int) > a2c))) u)
              (R (pB false) u))
            (CIf ((a0 : Int) == (6))
              (CIf s
                (R (pB (decide ((a1c : Int) ≥ a2c))) u)
                (R (pB false) u))
              (CIf ((a0 : Int) == (7))
                (R (pB ((a1a : Int) == a2a)) u)
                (R (pB false) u))))))))

theorem G_ponderref09_Holds.ok (a0 : Int) (a1a : Int) (a1b : ByteArray) (a1c : Int) (a2a : Int) (a2b : ByteArray) (a2c : Int) (u0 : Mem) (R : PV → Mem → Prop) : G_ponderref09_Holds.sh a0 a1a a1b a1c a2a a2b a2c u0 R = VF ⟨Try.prog, 74, [4, 5], [], [(2, ⟨[(7, .one (.raw .bool))], []⟩)], [], [], [], []⟩ ((Try.f10.body).getD .skip) [.tmp 6] [(pI a0), (.agg [(pI a1a), (pS a1b), (pI a1c)]), (.agg [(pI a2a), (pS a2b), (pI a2c)])] u0 R := by kernel_rfl

theorem G_ponderref09_Holds.c {a0 : Int} {a1a : Int} {a1b : ByteArray} {a1c : Int} {a2a : Int} {a2b : ByteArray} {a2c : Int} {u0 : Mem} {K : PV → Mem → Prop} (h : G_ponderref09_Holds.sh a0 a1a a1b a1c a2a a2b a2c u0 K) : CallP Try.prog 10 [(pI a0), (.agg [(pI a1a), (pS a1b), (pI a1c)]), (.agg [(pI a2a), (pS a2b), (pI a2c)])] u0 K :=
  VF_sound (E := ⟨Try.prog, 74, [4, 5], [], [(2, ⟨[(7, .one (.raw .bool))], []⟩)], [], [], [], []⟩) (rs := [.tmp 6]) Try.func10 rfl rfl rfl (by kernel_rfl) (by kernel_rfl) (G_ponderref09_Holds.ok a0 a1a a1b a1c a2a a2b a2c u0 K ▸ h)


/-- ponder/ponderlaw09.wakes -/
def G_ponderlaw09_wakes.sh  (u0 : Mem) (R : PV → Mem → Prop) : Prop :=
  CallP Try.prog 25 [(pS ⟨#[83]⟩), (pI (1))] u0 fun v u =>
  ∃ (x8a : Int), ∃ (x8b : ByteArray), ∃ (x8c : Int), v = (.agg [(pI x8a), (pS x8b), (pI x8c)]) ∧
  CallP Try.prog 25 [(pS ⟨#[83]⟩), (pI (2))] u fun v_1 u_1 =>
  ∃ (x9a : Int), ∃ (x9b : ByteArray), ∃ (x9c : Int), v_1 = (.agg [(pI x9a), (pS x9b), (pI x9c)]) ∧
  CallP Try.prog 14 [(.agg [(pI (2)), (pS ⟨#[120]⟩), (pI (0)), (pS ⟨#[]⟩), (pI (0)), (.list 3 .sh [])]), (.agg [(pI x8a), (pS x8b), (pI x8c)]), (.list 4 .nr [[(pS ⟨#[120]⟩), (pI x9a), (pS x9b), (pI x9c)]])] u_1 fun v_2 u_2 =>
  ∃ (x12pf : Fl) (x12p : List (List PV)), ∃ (x12q : Bool), v_2 = (.tup [(.list 4 x12pf x12p), (pB x12q)]) ∧
  CallP Try.prog 26 [(pS ⟨#[120]⟩)] u_2 fun v_3 u_3 =>
  ∃ (x15a : Int), ∃ (x15b : ByteArray), ∃ (x15c : Int), v_3 = (.agg [(pI x15a), (pS x15b), (pI x15c)]) ∧
  CallQ Try.prog 25 [(pS ⟨#[83]⟩), (pI (1))] u_3 fun v_4 u_4 =>
  ∃ (x23a : Int), ∃ (x23b : ByteArray), ∃ (x23c : Int), v_4 = (.agg [(pI x23a), (pS x23b), (pI x23c)]) ∧
  CallQ Try.prog 26 [(pS ⟨#[120]⟩)] (Mem.or u_3 u_4) fun v_5 u_5 =>
  ∃ (x24a : Int), ∃ (x24b : ByteArray), ∃ (x24c : Int), v_5 = (.agg [(pI x24a), (pS x24b), (pI x24c)]) ∧
  CallQ Try.prog 25 [(pS ⟨#[83]⟩), (pI (1))] (Mem.or (Mem.or u_3 u_4) u_5) fun v_6 u_6 =>
  ∃ (x25a : Int), ∃ (x25b : ByteArray), ∃ (x25c : Int), v_6 = (.agg [(pI x25a), (pS x25b), (pI x25c)]) ∧
  CallP Try.prog 20 [(.agg [(pI (1)), (pB false), (pS ⟨#[115]⟩), (.list 6 .sh [[(pI (1)), (pS ⟨#[]⟩), (pI x15a), (pS x15b), (pI x15c), (.list 3 .sh [])]]), (.list 6 .sh [[(pI (1)), (pS ⟨#[115]⟩), (pI (0)), (pS ⟨#[]⟩), (pI (0)), (.list 3 .sh [])]]), (pB false), (.list 7 .sh [])]), (.agg [(pI x23a), (pS x23b), (pI x23c), (pI x24a), (pS x24b), (pI x24c), (pI x25a), (pS x25b), (pI x25c), (pB false), (pB false), (pI (0))]), (.list 4 .nil [])] (Mem.or (Mem.or (Mem.or u_3 u_4) u_5) u_6) fun v_7 u_7 =>
  ∃ (x27pf : Fl) (x27p : List (List PV)), ∃ (x27q : Bool), v_7 = (.tup [(.list 4 x27pf x27p), (pB x27q)]) ∧
  CIf x12q
  (CIf x27q
    (CIf ((((List.length x27p : Nat) : Int) : Int) == (1))
      ((0 : Int) ≤ (0) ∧ ∃ (r41 : List PV), (x27p)[Int.toNat (0)]? = some r41 ∧
        ∃ (x43a : Int), ∃ (x43b : ByteArray), ∃ (x43c : Int), rowM r41 1 3 = some [(pI x43a), (pS x43b), (pI x43c)] ∧
        CallQ Try.prog 25 [(pS ⟨#[83]⟩), (pI (1))] u_7 fun v_8 u_8 =>
        ∃ (x44a : Int), ∃ (x44b : ByteArray), ∃ (x44c : Int), v_8 = (.agg [(pI x44a), (pS x44b), (pI x44c)]) ∧
        R (pB ((x43a == x44a) && (strEq x43b x44b && ((x43c == x44c) && true)))) (Mem.or u_7 u_8))
      (R (pB false) u_7))
    (R (pB false) u_7))
  (R (pB false) u_7)

theorem G_ponderlaw09_wakes.ok  (u0 : Mem) (R : PV → Mem → Prop) : G_ponderlaw09_wakes.sh  u0 R = VF ⟨Try.prog, 47, [3], [], [], [], [], [], []⟩ ((Try.f11.body).getD .skip) [.tmp 0] [] u0 R := by kernel_rfl

theorem G_ponderlaw09_wakes.c  {u0 : Mem} {K : PV → Mem → Prop} (h : G_ponderlaw09_wakes.sh  u0 K) : CallP Try.prog 11 [] u0 K :=
  VF_sound (E := ⟨Try.prog, 47, [3], [], [], [], [], [], []⟩) (rs := [.tmp 0]) Try.func11 rfl rfl rfl (by kernel_rfl) (by kernel_rfl) (G_ponderlaw09_wakes.ok  u0 K ▸ h)


/-- ponder/ponderlaw09.N -/
def G_ponderlaw09_N.sh (a0 : Int) (u0 : Mem) (R : PV → Mem → Prop) : Prop :=
  R (.agg [(pI (2)), (pS ⟨#[]⟩), (pI a0)]) u0

theorem G_ponderlaw09_N.ok (a0 : Int) (u0 : Mem) (R : PV → Mem → Prop) : G_ponderlaw09_N.sh a0 u0 R = VF ⟨Try.prog, 5, [2], [], [], [], [], [], []⟩ ((Try.f12.body).getD .skip) [.cell 2 23] [(pI a0)] u0 R := by kernel_rfl

theorem G_ponderlaw09_N.c {a0 : Int} {u0 : Mem} {K : PV → Mem → Prop} (h : G_ponderlaw09_N.sh a0 u0 K) : CallP Try.prog 12 [(pI a0)] u0 K :=
  VF_sound (E := ⟨Try.prog, 5, [2], [], [], [], [], [], []⟩) (rs := [.cell 2 23]) Try.func12 rfl rfl rfl (by kernel_rfl) (by kernel_rfl) (G_ponderlaw09_N.ok a0 u0 K ▸ h)


/-- ponder/ponderkeep.Copy[ponder/api.Bind] -/
def G_ponderkeep_Copy_api_Bind.sh (a0f : Fl) (a0 : List (List PV)) (u0 : Mem) (R : PV → Mem → Prop) : Prop :=
  appL false 4 48 .nil [] a0 u0 fun f4 u =>
  R (.list 4 f4 ([] ++ a0)) u

theorem G_ponderkeep_Copy_api_Bind.ok (a0f : Fl) (a0 : List (List PV)) (u0 : Mem) (R : PV → Mem → Prop) : G_ponderkeep_Copy_api_Bind.sh a0f a0 u0 R = VF ⟨Try.prog, 5, [], [], [], [], [], [], []⟩ ((Try.f13.body).getD .skip) [.tmp 2] [(.list 4 a0f a0)] u0 R := by kernel_rfl

theorem G_ponderkeep_Copy_api_Bind.c {a0f : Fl} {a0 : List (List PV)} {u0 : Mem} {K : PV → Mem → Prop} (h : G_ponderkeep_Copy_api_Bind.sh a0f a0 u0 K) : CallP Try.prog 13 [(.list 4 a0f a0)] u0 K :=
  VF_sound (E := ⟨Try.prog, 5, [], [], [], [], [], [], []⟩) (rs := [.tmp 2]) Try.func13 rfl rfl rfl (by kernel_rfl) (by kernel_rfl) (G_ponderkeep_Copy_api_Bind.ok a0f a0 u0 K ▸ h)


/-- ponder/test.One -/
def G_test_One.sh (a0a : Int) (a0b : ByteArray) (a0c : Int) (a0d : ByteArray) (a0e : Int) (a0ff : Fl) (a0f : List (List PV)) (a1a : Int) (a1b : ByteArray) (a1c : Int) (a2f : Fl) (a2 : List (List PV)) (u0 : Mem) (R : PV → Mem → Prop) : Prop :=
  CallP Try.prog 27 [(.agg [(pI a0a), (pS a0b), (pI a0c), (pS a0d), (pI a0e), (.list 3 .sh a0f)]), (.agg [(pI a1a), (pS a1b), (pI a1c)]), (.list 4 a2f a2)] u0 fun v u =>
  ∃ (x14pf : Fl) (x14p : List (List PV)), ∃ (x14q : Bool), v = (.tup [(.list 4 x14pf x14p), (pB x14q)]) ∧
  CIf (!x14q)
  (R (.tup [(.list 4 .nil []), (pB false)]) u)
  (CallP Try.prog 28 [(.list 4 x14pf x14p)] u fun v_1 u_1 =>
    ∃ (x20f : Fl) (x20 : List (List PV)), v_1 = (.list 4 x20f x20) ∧
    R (.tup [(.list 4 x20f x20), (pB true)]) u_1)

theorem G_test_One.ok (a0a : Int) (a0b : ByteArray) (a0c : Int) (a0d : ByteArray) (a0e : Int) (a0ff : Fl) (a0f : List (List PV)) (a1a : Int) (a1b : ByteArray) (a1c : Int) (a2f : Fl) (a2 : List (List PV)) (u0 : Mem) (R : PV → Mem → Prop) : G_test_One.sh a0a a0b a0c a0d a0e a0ff a0f a1a a1b a1c a2f a2 u0 R = VF ⟨Try.prog, 21, [3, 4], [], [], [], [], [], []⟩ ((Try.f14.body).getD .skip) [.tmp 6, .tmp 7] [(.agg [(pI a0a), (pS a0b), (pI a0c), (pS a0d), (pI a0e), (.list 3 a0ff a0f)]), (.agg [(pI a1a), (pS a1b), (pI a1c)]), (.list 4 a2f a2)] u0 R := by kernel_rfl

theorem G_test_One.c {a0a : Int} {a0b : ByteArray} {a0c : Int} {a0d : ByteArray} {a0e : Int} {a0ff : Fl} {a0f : List (List PV)} {a1a : Int} {a1b : ByteArray} {a1c : Int} {a2f : Fl} {a2 : List (List PV)} {u0 : Mem} {K : PV → Mem → Prop} (h : G_test_One.sh a0a a0b a0c a0d a0e a0ff a0f a1a a1b a1c a2f a2 u0 K) : CallP Try.prog 14 [(.agg [(pI a0a), (pS a0b), (pI a0c), (pS a0d), (pI a0e), (.list 3 a0ff a0f)]), (.agg [(pI a1a), (pS a1b), (pI a1c)]), (.list 4 a2f a2)] u0 K :=
  VF_sound (E := ⟨Try.prog, 21, [3, 4], [], [], [], [], [], []⟩) (rs := [.tmp 6, .tmp 7]) Try.func14 rfl rfl rfl (by kernel_rfl) (by kernel_rfl) (G_test_One.ok a0a a0b a0c a0d a0e a0ff a0f a1a a1b a1c a2f a2 u0 K ▸ h)


/-- ponder/ponderref09.One -/
def G_ponderref09_One.sh (a0a : Int) (a0b : ByteArray) (a0c : Int) (a0d : ByteArray) (a0e : Int) (a0ff : Fl) (a0f : List (List PV)) (a1a : Int) (a1b : ByteArray) (a1c : Int) (a2f : Fl) (a2 : List (List PV)) (u0 : Mem) (R : PV → Mem → Prop) : Prop :=
  CIf ((a0a : Int) == (8))
  (LoopI (α := Int) (fun next s u =>
      CIf (decide ((s : Int) < ((List.length a0f : Nat) : Int)))
      ((0 : Int) ≤ s ∧ ∃ (r25 : List PV), (a0f)[Int.toNat s]? = some r25 ∧
        ∃ (x26a : Int), ∃ (x26b : ByteArray), ∃ (x26c : Int), rowM r25 0 3 = some [(pI x26a), (pS x26b), (pI x26c)] ∧
        CIf ((x26a == a1a) && (strEq x26b a1b && ((x26c == a1c) && true)))
        (R (.tup [(.list 4 a2f a2), (pB true)]) u)
        (next (IntKind.wrap .i64 (s + (1))) u))
      (R (.tup [(.list 4 .nil []), (pB false)]) u))
    (0) u0)
  (CIf (decide ((a0a : Int) < (1)))
    (R (.tup [(.list 4 .nil []), (pB false)]) u0)
    (CIf (decide ((a0a : Int) > (7)))
      (R (.tup [(.list 4 .nil []), (pB false)]) u0)
      (CJoin (α := Int × ByteArray × Int) (fun J =>
          CIf (!strEq a0b ⟨#[]⟩)
          (CallP Try.prog 18 [(.list 4 a2f a2), (pS a0b)] u0 fun v u_2 =>
            ∃ (x47pa : Int), ∃ (x47pb : ByteArray), ∃ (x47pc : Int), ∃ (x47q : Bool), v = (.tup [(.agg [(pI x47pa), (pS x47pb), (pI x47pc)]), (pB x47q)]) ∧
            CIf (!x47q)
            (CIf ((a0a : Int) != (1))
              (R (.tup [(.list 4 .nil []), (pB false)]) u_2)
              (CallP Try.prog 29 [(.list 4 a2f a2), (pS a0b), (.agg [(pI a1a), (pS a1b), (pI a1c)])] u_2 fun v_1 u_3 =>
                ∃ (x59f : Fl) (x59 : List (List PV)), v_1 = (.list 4 x59f x59) ∧
                R (.tup [(.list 4 x59f x59), (pB true)]) u_3))
            (J (x47pa, x47pb, x47pc) u_2))
          (J (a0c, a0d, a0e) u0))
        (fun s_1 u_1 =>
          CallP Try.prog 10 [(pI a0a), (.agg [(pI a1a), (pS a1b), (pI a1c)]), (.agg [(pI s_1.1), (pS s_1.2.1), (pI s_1.2.2)])] u_1 fun v_2 u_4 =>
          ∃ (x65 : Bool), v_2 = (pB x65) ∧
          CIf (!x65)
          (R (.tup [(.list 4 .nil []), (pB false)]) u_4)
          (R (.tup [(.list 4 a2f a2), (pB true)]) u_4)))))

theorem G_ponderref09_One.ok (a0a : Int) (a0b : ByteArray) (a0c : Int) (a0d : ByteArray) (a0e : Int) (a0ff : Fl) (a0f : List (List PV)) (a1a : Int) (a1b : ByteArray) (a1c : Int) (a2f : Fl) (a2 : List (List PV)) (u0 : Mem) (R : PV → Mem → Prop) : G_ponderref09_One.sh a0a a0b a0c a0d a0e a0ff a0f a1a a1b a1c a2f a2 u0 R = VF ⟨Try.prog, 68, [3, 4, 9, 10], [(3, ⟨[(8, .one (.raw (.int .i64)))], []⟩)], [(18, ⟨[(9, .box [.raw (.int .i64), .raw .str, .raw (.int .i64)])], []⟩)], [], [], [], []⟩ ((Try.f15.body).getD .skip) [.tmp 6, .tmp 7] [(.agg [(pI a0a), (pS a0b), (pI a0c), (pS a0d), (pI a0e), (.list 3 a0ff a0f)]), (.agg [(pI a1a), (pS a1b), (pI a1c)]), (.list 4 a2f a2)] u0 R := by kernel_rfl

theorem G_ponderref09_One.c {a0a : Int} {a0b : ByteArray} {a0c : Int} {a0d : ByteArray} {a0e : Int} {a0ff : Fl} {a0f : List (List PV)} {a1a : Int} {a1b : ByteArray} {a1c : Int} {a2f : Fl} {a2 : List (List PV)} {u0 : Mem} {K : PV → Mem → Prop} (h : G_ponderref09_One.sh a0a a0b a0c a0d a0e a0ff a0f a1a a1b a1c a2f a2 u0 K) : CallP Try.prog 15 [(.agg [(pI a0a), (pS a0b), (pI a0c), (pS a0d), (pI a0e), (.list 3 a0ff a0f)]), (.agg [(pI a1a), (pS a1b), (pI a1c)]), (.list 4 a2f a2)] u0 K :=
  VF_sound (E := ⟨Try.prog, 68, [3, 4, 9, 10], [(3, ⟨[(8, .one (.raw (.int .i64)))], []⟩)], [(18, ⟨[(9, .box [.raw (.int .i64), .raw .str, .raw (.int .i64)])], []⟩)], [], [], [], []⟩) (rs := [.tmp 6, .tmp 7]) Try.func15 rfl rfl rfl (by kernel_rfl) (by kernel_rfl) (G_ponderref09_One.ok a0a a0b a0c a0d a0e a0ff a0f a1a a1b a1c a2f a2 u0 K ▸ h)


/-- ponder/ponderkeep.Binds -/
def G_ponderkeep_Binds.sh (a0f : Fl) (a0 : List (List PV)) (a1f : Fl) (a1 : List (List PV)) (u0 : Mem) (R : PV → Mem → Prop) : Prop :=
  CIf ((((List.length a0 : Nat) : Int) : Int) != ((List.length a1 : Nat) : Int))
  (R (pB false) u0)
  (LoopI (α := Int) (fun next s u =>
      CIf (decide ((s : Int) < ((List.length a0 : Nat) : Int)))
      ((0 : Int) ≤ s ∧ ∃ (r19 : List PV), (a0)[Int.toNat s]? = some r19 ∧
        ∃ (x20a : ByteArray), ∃ (x20b : Int), ∃ (x20c : ByteArray), ∃ (x20d : Int), rowM r19 0 4 = some [(pS x20a), (pI x20b), (pS x20c), (pI x20d)] ∧
        (0 : Int) ≤ s ∧ ∃ (r23 : List PV), (a1)[Int.toNat s]? = some r23 ∧
        ∃ (x24a : ByteArray), ∃ (x24b : Int), ∃ (x24c : ByteArray), ∃ (x24d : Int), rowM r23 0 4 = some [(pS x24a), (pI x24b), (pS x24c), (pI x24d)] ∧
        CIf (!(strEq x20a x24a && ((x20b == x24b) && (strEq x20c x24c && ((x20d == x24d) && true)))))
        (R (pB false) u)
        (next (IntKind.wrap .i64 (s + (1))) u))
      (R (pB true) u))
    (0) u0)

theorem G_ponderkeep_Binds.ok (a0f : Fl) (a0 : List (List PV)) (a1f : Fl) (a1 : List (List PV)) (u0 : Mem) (R : PV → Mem → Prop) : G_ponderkeep_Binds.sh a0f a0 a1f a1 u0 R = VF ⟨Try.prog, 26, [], [(4, ⟨[(5, .one (.raw (.int .i64)))], []⟩)], [], [], [], [], []⟩ ((Try.f16.body).getD .skip) [.tmp 4] [(.list 4 a0f a0), (.list 4 a1f a1)] u0 R := by kernel_rfl

theorem G_ponderkeep_Binds.c {a0f : Fl} {a0 : List (List PV)} {a1f : Fl} {a1 : List (List PV)} {u0 : Mem} {K : PV → Mem → Prop} (h : G_ponderkeep_Binds.sh a0f a0 a1f a1 u0 K) : CallP Try.prog 16 [(.list 4 a0f a0), (.list 4 a1f a1)] u0 K :=
  VF_sound (E := ⟨Try.prog, 26, [], [(4, ⟨[(5, .one (.raw (.int .i64)))], []⟩)], [], [], [], [], []⟩) (rs := [.tmp 4]) Try.func16 rfl rfl rfl (by kernel_rfl) (by kernel_rfl) (G_ponderkeep_Binds.ok a0f a0 a1f a1 u0 K ▸ h)


/-- ponder/test.Get -/
def G_test_Get.sh (a0f : Fl) (a0 : List (List PV)) (a1 : ByteArray) (u0 : Mem) (R : PV → Mem → Prop) : Prop :=
  LoopI (α := Int) (fun next s u =>
    CIf (decide ((s : Int) < ((List.length a0 : Nat) : Int)))
    ((0 : Int) ≤ s ∧ ∃ (r12 : List PV), (a0)[Int.toNat s]? = some r12 ∧
      ∃ (x13a : ByteArray), ∃ (x13b : Int), ∃ (x13c : ByteArray), ∃ (x13d : Int), rowM r12 0 4 = some [(pS x13a), (pI x13b), (pS x13c), (pI x13d)] ∧
      CIf (strEq x13a a1)
      (R (.tup [(.agg [(pI x13b), (pS x13c), (pI x13d)]), (pB true)]) u)
      (next (IntKind.wrap .i64 (s + (1))) u))
    (R (.tup [(.agg [(pI (0)), (pS ⟨#[]⟩), (pI (0))]), (pB false)]) u))
  (0) u0

theorem G_test_Get.ok (a0f : Fl) (a0 : List (List PV)) (a1 : ByteArray) (u0 : Mem) (R : PV → Mem → Prop) : G_test_Get.sh a0f a0 a1 u0 R = VF ⟨Try.prog, 22, [4, 7], [(2, ⟨[(10, .one (.raw (.int .i64)))], [(4, 3)]⟩)], [], [], [], [], []⟩ ((Try.f17.body).getD .skip) [.cell 4 23, .tmp 5] [(.list 4 a0f a0), (pS a1)] u0 R := by kernel_rfl

theorem G_test_Get.c {a0f : Fl} {a0 : List (List PV)} {a1 : ByteArray} {u0 : Mem} {K : PV → Mem → Prop} (h : G_test_Get.sh a0f a0 a1 u0 K) : CallP Try.prog 17 [(.list 4 a0f a0), (pS a1)] u0 K :=
  VF_sound (E := ⟨Try.prog, 22, [4, 7], [(2, ⟨[(10, .one (.raw (.int .i64)))], [(4, 3)]⟩)], [], [], [], [], []⟩) (rs := [.cell 4 23, .tmp 5]) Try.func17 rfl rfl rfl (by kernel_rfl) (by kernel_rfl) (G_test_Get.ok a0f a0 a1 u0 K ▸ h)


/-- ponder/ponderref09.Get -/
def G_ponderref09_Get.sh (a0f : Fl) (a0 : List (List PV)) (a1 : ByteArray) (u0 : Mem) (R : PV → Mem → Prop) : Prop :=
  LoopI (α := Int) (fun next s u =>
    CIf (decide ((s : Int) < ((List.length a0 : Nat) : Int)))
    ((0 : Int) ≤ s ∧ ∃ (r15 : List PV), (a0)[Int.toNat s]? = some r15 ∧
      ∃ (x17 : ByteArray), rowM r15 0 1 = some [(pS x17)] ∧
      CIf (strEq x17 a1)
      ((0 : Int) ≤ s ∧ ∃ (r22 : List PV), (a0)[Int.toNat s]? = some r22 ∧
        ∃ (x24a : Int), ∃ (x24b : ByteArray), ∃ (x24c : Int), rowM r22 1 3 = some [(pI x24a), (pS x24b), (pI x24c)] ∧
        R (.tup [(.agg [(pI x24a), (pS x24b), (pI x24c)]), (pB true)]) u)
      (next (IntKind.wrap .i64 (s + (1))) u))
    (R (.tup [(.agg [(pI (0)), (pS ⟨#[]⟩), (pI (0))]), (pB false)]) u))
  (0) u0

theorem G_ponderref09_Get.ok (a0f : Fl) (a0 : List (List PV)) (a1 : ByteArray) (u0 : Mem) (R : PV → Mem → Prop) : G_ponderref09_Get.sh a0f a0 a1 u0 R = VF ⟨Try.prog, 26, [4], [(2, ⟨[(6, .one (.raw (.int .i64)))], [(4, 3)]⟩)], [], [], [], [], []⟩ ((Try.f18.body).getD .skip) [.cell 4 23, .tmp 5] [(.list 4 a0f a0), (pS a1)] u0 R := by kernel_rfl

theorem G_ponderref09_Get.c {a0f : Fl} {a0 : List (List PV)} {a1 : ByteArray} {u0 : Mem} {K : PV → Mem → Prop} (h : G_ponderref09_Get.sh a0f a0 a1 u0 K) : CallP Try.prog 18 [(.list 4 a0f a0), (pS a1)] u0 K :=
  VF_sound (E := ⟨Try.prog, 26, [4], [(2, ⟨[(6, .one (.raw (.int .i64)))], [(4, 3)]⟩)], [], [], [], [], []⟩) (rs := [.cell 4 23, .tmp 5]) Try.func18 rfl rfl rfl (by kernel_rfl) (by kernel_rfl) (G_ponderref09_Get.ok a0f a0 a1 u0 K ▸ h)


/-- ponder/ponderlaw09.heavy -/
def G_ponderlaw09_heavy.sh (a0a : Int) (a0b : Bool) (a0c : ByteArray) (a0df : Fl) (a0d : List (List PV)) (a0ef : Fl) (a0e : List (List PV)) (a0f : Bool) (a0gf : Fl) (a0g : List (List PV)) (a1f : Fl) (a1 : List (List PV)) (u0 : Mem) (R : PV → Mem → Prop) : Prop :=
  CIf (decide ((((List.length a1 : Nat) : Int) : Int) > (40)))
  (R (pB true) u0)
  (CIf (decide ((((List.length a0d : Nat) : Int) : Int) > (10)))
    (R (pB true) u0)
    (CIf (decide ((((List.length a0e : Nat) : Int) : Int) > (10)))
      (R (pB true) u0)
      (CallP Try.prog 30 [(.list 7 .nr [[(pI a0a), (pB a0b), (pS a0c), (.list 6 .sh a0d), (.list 6 .sh a0e), (pB a0f), (.list 7 .sh a0g)]])] u0 fun v u =>
        ∃ (x22 : Bool), v = (pB x22) ∧
        CIf x22
        (R (pB true) u)
        (CallP Try.prog 31 [(.list 7 .nr [[(pI a0a), (pB a0b), (pS a0c), (.list 6 .sh a0d), (.list 6 .sh a0e), (pB a0f), (.list 7 .sh a0g)]]), (pI (20)), (pI (0))] u fun v_1 u_1 =>
          ∃ (x26 : Int), v_1 = (pI x26) ∧
          R (pB (decide ((x26 : Int) > (20)))) u_1))))

theorem G_ponderlaw09_heavy.ok (a0a : Int) (a0b : Bool) (a0c : ByteArray) (a0df : Fl) (a0d : List (List PV)) (a0ef : Fl) (a0e : List (List PV)) (a0f : Bool) (a0gf : Fl) (a0g : List (List PV)) (a1f : Fl) (a1 : List (List PV)) (u0 : Mem) (R : PV → Mem → Prop) : G_ponderlaw09_heavy.sh a0a a0b a0c a0df a0d a0ef a0e a0f a0gf a0g a1f a1 u0 R = VF ⟨Try.prog, 29, [2], [], [], [], [], [], []⟩ ((Try.f19.body).getD .skip) [.tmp 4] [(.agg [(pI a0a), (pB a0b), (pS a0c), (.list 6 a0df a0d), (.list 6 a0ef a0e), (pB a0f), (.list 7 a0gf a0g)]), (.list 4 a1f a1)] u0 R := by kernel_rfl

theorem G_ponderlaw09_heavy.c {a0a : Int} {a0b : Bool} {a0c : ByteArray} {a0df : Fl} {a0d : List (List PV)} {a0ef : Fl} {a0e : List (List PV)} {a0f : Bool} {a0gf : Fl} {a0g : List (List PV)} {a1f : Fl} {a1 : List (List PV)} {u0 : Mem} {K : PV → Mem → Prop} (h : G_ponderlaw09_heavy.sh a0a a0b a0c a0df a0d a0ef a0e a0f a0gf a0g a1f a1 u0 K) : CallP Try.prog 19 [(.agg [(pI a0a), (pB a0b), (pS a0c), (.list 6 a0df a0d), (.list 6 a0ef a0e), (pB a0f), (.list 7 a0gf a0g)]), (.list 4 a1f a1)] u0 K :=
  VF_sound (E := ⟨Try.prog, 29, [2], [], [], [], [], [], []⟩) (rs := [.tmp 4]) Try.func19 rfl rfl rfl (by kernel_rfl) (by kernel_rfl) (G_ponderlaw09_heavy.ok a0a a0b a0c a0df a0d a0ef a0e a0f a0gf a0g a1f a1 u0 K ▸ h)


/-- ponder/test.Cond -/
def G_test_Cond.sh (a0a : Int) (a0b : Bool) (a0c : ByteArray) (a0df : Fl) (a0d : List (List PV)) (a0ef : Fl) (a0e : List (List PV)) (a0f : Bool) (a0gf : Fl) (a0g : List (List PV)) (a1a : Int) (a1b : ByteArray) (a1c : Int) (a1d : Int) (a1e : ByteArray) (a1f : Int) (a1g : Int) (a1h : ByteArray) (a1i : Int) (a1j : Bool) (a1k : Bool) (a1l : Int) (a2f : Fl) (a2 : List (List PV)) (u0 : Mem) (R : PV → Mem → Prop) : Prop :=
  CJoin (α := Unit) (fun J =>
    CIf ((a0a : Int) != (1))
    (CIf ((a0a : Int) != (2))
      (R (.tup [(.list 4 .nil []), (pB false)]) u0)
      (CIf a0b
        (CIf (!a1k)
          (R (.tup [(.list 4 .nil []), (pB false)]) u0)
          (CIf (!(a0f == a1j))
            (R (.tup [(.list 4 .nil []), (pB false)]) u0)
            (J () u0)))
        (CIf (!(a0f == a1j))
          (R (.tup [(.list 4 .nil []), (pB false)]) u0)
          (J () u0))))
    (CIf a0b
      (CIf (!a1k)
        (R (.tup [(.list 4 .nil []), (pB false)]) u0)
        (CIf (!(a0f == a1j))
          (R (.tup [(.list 4 .nil []), (pB false)]) u0)
          (J () u0)))
      (CIf (!(a0f == a1j))
        (R (.tup [(.list 4 .nil []), (pB false)]) u0)
        (J () u0))))
  (fun s u =>
    CallP Try.prog 27 [(.agg [(pI (1)), (pS a0c), (pI (0)), (pS ⟨#[]⟩), (pI (0)), (.list 3 .sh [])]), (.agg [(pI a1a), (pS a1b), (pI a1c)]), (.list 4 a2f a2)] u fun v u_1 =>
    ∃ (x41pf : Fl) (x41p : List (List PV)), ∃ (x41q : Bool), v = (.tup [(.list 4 x41pf x41p), (pB x41q)]) ∧
    CIf (!x41q)
    (R (.tup [(.list 4 .nil []), (pB false)]) u_1)
    (CallP Try.prog 32 [(.list 6 a0df a0d), (.agg [(pI a1d), (pS a1e), (pI a1f)]), (.list 4 x41pf x41p)] u_1 fun v_1 u_2 =>
      ∃ (x52pf : Fl) (x52p : List (List PV)), ∃ (x52q : Bool), v_1 = (.tup [(.list 4 x52pf x52p), (pB x52q)]) ∧
      CIf (!x52q)
      (R (.tup [(.list 4 .nil []), (pB false)]) u_2)
      (CallP Try.prog 32 [(.list 6 a0ef a0e), (.agg [(pI a1g), (pS a1h), (pI a1i)]), (.list 4 x52pf x52p)] u_2 fun v_2 u_3 =>
        ∃ (x63pf : Fl) (x63p : List (List PV)), ∃ (x63q : Bool), v_2 = (.tup [(.list 4 x63pf x63p), (pB x63q)]) ∧
        CIf (!x63q)
        (R (.tup [(.list 4 .nil []), (pB false)]) u_3)
        (CallP Try.prog 28 [(.list 4 x63pf x63p)] u_3 fun v_3 u_4 =>
          ∃ (x69f : Fl) (x69 : List (List PV)), v_3 = (.list 4 x69f x69) ∧
          R (.tup [(.list 4 x69f x69), (pB true)]) u_4))))

theorem G_test_Cond.ok (a0a : Int) (a0b : Bool) (a0c : ByteArray) (a0df : Fl) (a0d : List (List PV)) (a0ef : Fl) (a0e : List (List PV)) (a0f : Bool) (a0gf : Fl) (a0g : List (List PV)) (a1a : Int) (a1b : ByteArray) (a1c : Int) (a1d : Int) (a1e : ByteArray) (a1f : Int) (a1g : Int) (a1h : ByteArray) (a1i : Int) (a1j : Bool) (a1k : Bool) (a1l : Int) (a2f : Fl) (a2 : List (List PV)) (u0 : Mem) (R : PV → Mem → Prop) : G_test_Cond.sh a0a a0b a0c a0df a0d a0ef a0e a0f a0gf a0g a1a a1b a1c a1d a1e a1f a1g a1h a1i a1j a1k a1l a2f a2 u0 R = VF ⟨Try.prog, 70, [3, 4], [], [(3, ⟨[], []⟩)], [], [], [], []⟩ ((Try.f20.body).getD .skip) [.tmp 6, .tmp 7] [(.agg [(pI a0a), (pB a0b), (pS a0c), (.list 6 a0df a0d), (.list 6 a0ef a0e), (pB a0f), (.list 7 a0gf a0g)]), (.agg [(pI a1a), (pS a1b), (pI a1c), (pI a1d), (pS a1e), (pI a1f), (pI a1g), (pS a1h), (pI a1i), (pB a1j), (pB a1k), (pI a1l)]), (.list 4 a2f a2)] u0 R := by kernel_rfl

theorem G_test_Cond.c {a0a : Int} {a0b : Bool} {a0c : ByteArray} {a0df : Fl} {a0d : List (List PV)} {a0ef : Fl} {a0e : List (List PV)} {a0f : Bool} {a0gf : Fl} {a0g : List (List PV)} {a1a : Int} {a1b : ByteArray} {a1c : Int} {a1d : Int} {a1e : ByteArray} {a1f : Int} {a1g : Int} {a1h : ByteArray} {a1i : Int} {a1j : Bool} {a1k : Bool} {a1l : Int} {a2f : Fl} {a2 : List (List PV)} {u0 : Mem} {K : PV → Mem → Prop} (h : G_test_Cond.sh a0a a0b a0c a0df a0d a0ef a0e a0f a0gf a0g a1a a1b a1c a1d a1e a1f a1g a1h a1i a1j a1k a1l a2f a2 u0 K) : CallP Try.prog 20 [(.agg [(pI a0a), (pB a0b), (pS a0c), (.list 6 a0df a0d), (.list 6 a0ef a0e), (pB a0f), (.list 7 a0gf a0g)]), (.agg [(pI a1a), (pS a1b), (pI a1c), (pI a1d), (pS a1e), (pI a1f), (pI a1g), (pS a1h), (pI a1i), (pB a1j), (pB a1k), (pI a1l)]), (.list 4 a2f a2)] u0 K :=
  VF_sound (E := ⟨Try.prog, 70, [3, 4], [], [(3, ⟨[], []⟩)], [], [], [], []⟩) (rs := [.tmp 6, .tmp 7]) Try.func20 rfl rfl rfl (by kernel_rfl) (by kernel_rfl) (G_test_Cond.ok a0a a0b a0c a0df a0d a0ef a0e a0f a0gf a0g a1a a1b a1c a1d a1e a1f a1g a1h a1i a1j a1k a1l a2f a2 u0 K ▸ h)


/-- ponder/test.Cond -/
def G_test_Cond_w.sh (a0a : Int) (a0b : Bool) (a0c : ByteArray) (a0df : Fl) (a0d : List (List PV)) (a0ef : Fl) (a0e : List (List PV)) (a0f : Bool) (a0gf : Fl) (a0g : List (List PV)) (a1a : Int) (a1b : ByteArray) (a1c : Int) (a1d : Int) (a1e : ByteArray) (a1f : Int) (a1g : Int) (a1h : ByteArray) (a1i : Int) (a1j : Bool) (a1k : Bool) (a1l : Int) (a2f : Fl) (a2 : List (List PV)) (u0 : Mem) (R : PV → Mem → Prop) : Prop :=
  CJoin (α := Unit) (fun J =>
    CIf ((a0a : Int) != (1))
    (CIf ((a0a : Int) != (2))
      (R (.tup [(.list 4 .nil []), (pB false)]) u0)
      (CIf a0b
        (CIf (!a1k)
          (R (.tup [(.list 4 .nil []), (pB false)]) u0)
          (CIf (!(a0f == a1j))
            (R (.tup [(.list 4 .nil []), (pB false)]) u0)
            (J () u0)))
        (CIf (!(a0f == a1j))
          (R (.tup [(.list 4 .nil []), (pB false)]) u0)
          (J () u0))))
    (CIf a0b
      (CIf (!a1k)
        (R (.tup [(.list 4 .nil []), (pB false)]) u0)
        (CIf (!(a0f == a1j))
          (R (.tup [(.list 4 .nil []), (pB false)]) u0)
          (J () u0)))
      (CIf (!(a0f == a1j))
        (R (.tup [(.list 4 .nil []), (pB false)]) u0)
        (J () u0))))
  (fun s u =>
    CallP Try.prog 27 [(.agg [(pI (1)), (pS a0c), (pI (0)), (pS ⟨#[]⟩), (pI (0)), (.list 3 .sh [])]), (.agg [(pI a1a), (pS a1b), (pI a1c)]), (.list 4 a2f a2)] u fun v u_1 =>
    ∃ (x41pf : Fl) (x41p : List (List PV)), ∃ (x41q : Bool), v = (.tup [(.list 4 x41pf x41p), (pB x41q)]) ∧
    CIf (!x41q)
    (R (.tup [(.list 4 .nil []), (pB false)]) u_1)
    (CallP Try.prog 32 [(.list 6 a0df a0d), (.agg [(pI a1d), (pS a1e), (pI a1f)]), (.list 4 x41pf x41p)] u_1 fun v_1 u_2 =>
      ∃ (x52pf : Fl) (x52p : List (List PV)), ∃ (x52q : Bool), v_1 = (.tup [(.list 4 x52pf x52p), (pB x52q)]) ∧
      CIf (!x52q)
      (R (.tup [(.list 4 .nil []), (pB false)]) u_2)
      (CallP Try.prog 32 [(.list 6 a0ef a0e), (.agg [(pI a1g), (pS a1h), (pI a1i)]), (.list 4 x52pf x52p)] u_2 fun v_2 u_3 =>
        ∃ (x63pf : Fl) (x63p : List (List PV)), ∃ (x63q : Bool), v_2 = (.tup [(.list 4 x63pf x63p), (pB x63q)]) ∧
        CIf (!x63q)
        (R (.tup [(.list 4 .nil []), (pB false)]) u_3)
        (CallP Try.prog 28 [(.list 4 x63pf x63p)] u_3 fun v_3 u_4 =>
          ∃ (x69 : Option Addr) (x69n x69c : Nat), v_3 = (.raw (.slice x69 x69n x69c)) ∧
          R (.tup [(.raw (.slice x69 x69n x69c)), (pB true)]) u_4))))

theorem G_test_Cond_w.ok (a0a : Int) (a0b : Bool) (a0c : ByteArray) (a0df : Fl) (a0d : List (List PV)) (a0ef : Fl) (a0e : List (List PV)) (a0f : Bool) (a0gf : Fl) (a0g : List (List PV)) (a1a : Int) (a1b : ByteArray) (a1c : Int) (a1d : Int) (a1e : ByteArray) (a1f : Int) (a1g : Int) (a1h : ByteArray) (a1i : Int) (a1j : Bool) (a1k : Bool) (a1l : Int) (a2f : Fl) (a2 : List (List PV)) (u0 : Mem) (R : PV → Mem → Prop) : G_test_Cond_w.sh a0a a0b a0c a0df a0d a0ef a0e a0f a0gf a0g a1a a1b a1c a1d a1e a1f a1g a1h a1i a1j a1k a1l a2f a2 u0 R = VF ⟨Try.prog, 70, [3, 4], [], [(3, ⟨[], []⟩)], [], [], [], [6, 69]⟩ ((Try.f20.body).getD .skip) [.tmp 6, .tmp 7] [(.agg [(pI a0a), (pB a0b), (pS a0c), (.list 6 a0df a0d), (.list 6 a0ef a0e), (pB a0f), (.list 7 a0gf a0g)]), (.agg [(pI a1a), (pS a1b), (pI a1c), (pI a1d), (pS a1e), (pI a1f), (pI a1g), (pS a1h), (pI a1i), (pB a1j), (pB a1k), (pI a1l)]), (.list 4 a2f a2)] u0 R := by kernel_rfl

theorem G_test_Cond_w.c {a0a : Int} {a0b : Bool} {a0c : ByteArray} {a0df : Fl} {a0d : List (List PV)} {a0ef : Fl} {a0e : List (List PV)} {a0f : Bool} {a0gf : Fl} {a0g : List (List PV)} {a1a : Int} {a1b : ByteArray} {a1c : Int} {a1d : Int} {a1e : ByteArray} {a1f : Int} {a1g : Int} {a1h : ByteArray} {a1i : Int} {a1j : Bool} {a1k : Bool} {a1l : Int} {a2f : Fl} {a2 : List (List PV)} {u0 : Mem} {K : PV → Mem → Prop} (h : G_test_Cond_w.sh a0a a0b a0c a0df a0d a0ef a0e a0f a0gf a0g a1a a1b a1c a1d a1e a1f a1g a1h a1i a1j a1k a1l a2f a2 u0 K) : CallP Try.prog 20 [(.agg [(pI a0a), (pB a0b), (pS a0c), (.list 6 a0df a0d), (.list 6 a0ef a0e), (pB a0f), (.list 7 a0gf a0g)]), (.agg [(pI a1a), (pS a1b), (pI a1c), (pI a1d), (pS a1e), (pI a1f), (pI a1g), (pS a1h), (pI a1i), (pB a1j), (pB a1k), (pI a1l)]), (.list 4 a2f a2)] u0 K :=
  VF_sound (E := ⟨Try.prog, 70, [3, 4], [], [(3, ⟨[], []⟩)], [], [], [], [6, 69]⟩) (rs := [.tmp 6, .tmp 7]) Try.func20 rfl rfl rfl (by kernel_rfl) (by kernel_rfl) (G_test_Cond_w.ok a0a a0b a0c a0df a0d a0ef a0e a0f a0gf a0g a1a a1b a1c a1d a1e a1f a1g a1h a1i a1j a1k a1l a2f a2 u0 K ▸ h)


/-- ponder/ponderref09.Cond -/
def G_ponderref09_Cond.sh (a0a : Int) (a0b : Bool) (a0c : ByteArray) (a0df : Fl) (a0d : List (List PV)) (a0ef : Fl) (a0e : List (List PV)) (a0f : Bool) (a0gf : Fl) (a0g : List (List PV)) (a1a : Int) (a1b : ByteArray) (a1c : Int) (a1d : Int) (a1e : ByteArray) (a1f : Int) (a1g : Int) (a1h : ByteArray) (a1i : Int) (a1j : Bool) (a1k : Bool) (a1l : Int) (a2f : Fl) (a2 : List (List PV)) (u0 : Mem) (R : PV → Mem → Prop) : Prop :=
  CJoin (α := Unit) (fun J =>
    CIf ((a0a : Int) != (1))
    (CIf ((a0a : Int) != (2))
      (R (.tup [(.list 4 .nil []), (pB false)]) u0)
      (CIf a0b
        (CIf (!a1k)
          (R (.tup [(.list 4 .nil []), (pB false)]) u0)
          (CIf (!(a0f == a1j))
            (R (.tup [(.list 4 .nil []), (pB false)]) u0)
            (J () u0)))
        (CIf (!(a0f == a1j))
          (R (.tup [(.list 4 .nil []), (pB false)]) u0)
          (J () u0))))
    (CIf a0b
      (CIf (!a1k)
        (R (.tup [(.list 4 .nil []), (pB false)]) u0)
        (CIf (!(a0f == a1j))
          (R (.tup [(.list 4 .nil []), (pB false)]) u0)
          (J () u0)))
      (CIf (!(a0f == a1j))
        (R (.tup [(.list 4 .nil []), (pB false)]) u0)
        (J () u0))))
  (fun s u =>
    CallP Try.prog 15 [(.agg [(pI (1)), (pS a0c), (pI (0)), (pS ⟨#[]⟩), (pI (0)), (.list 3 .sh [])]), (.agg [(pI a1a), (pS a1b), (pI a1c)]), (.list 4 a2f a2)] u fun v u_1 =>
    ∃ (x40pf : Fl) (x40p : List (List PV)), ∃ (x40q : Bool), v = (.tup [(.list 4 x40pf x40p), (pB x40q)]) ∧
    CIf (!x40q)
    (R (.tup [(.list 4 .nil []), (pB false)]) u_1)
    (CallP Try.prog 33 [(.list 6 a0df a0d), (.agg [(pI a1d), (pS a1e), (pI a1f)]), (.list 4 x40pf x40p)] u_1 fun v_1 u_2 =>
      ∃ (x51pf : Fl) (x51p : List (List PV)), ∃ (x51q : Bool), v_1 = (.tup [(.list 4 x51pf x51p), (pB x51q)]) ∧
      CIf (!x51q)
      (R (.tup [(.list 4 .nil []), (pB false)]) u_2)
      (CallP Try.prog 33 [(.list 6 a0ef a0e), (.agg [(pI a1g), (pS a1h), (pI a1i)]), (.list 4 x51pf x51p)] u_2 fun v_2 u_3 =>
        ∃ (x61pf : Fl) (x61p : List (List PV)), ∃ (x61q : Bool), v_2 = (.tup [(.list 4 x61pf x61p), (pB x61q)]) ∧
        R (.tup [(.list 4 x61pf x61p), (pB x61q)]) u_3)))

theorem G_ponderref09_Cond.ok (a0a : Int) (a0b : Bool) (a0c : ByteArray) (a0df : Fl) (a0d : List (List PV)) (a0ef : Fl) (a0e : List (List PV)) (a0f : Bool) (a0gf : Fl) (a0g : List (List PV)) (a1a : Int) (a1b : ByteArray) (a1c : Int) (a1d : Int) (a1e : ByteArray) (a1f : Int) (a1g : Int) (a1h : ByteArray) (a1i : Int) (a1j : Bool) (a1k : Bool) (a1l : Int) (a2f : Fl) (a2 : List (List PV)) (u0 : Mem) (R : PV → Mem → Prop) : G_ponderref09_Cond.sh a0a a0b a0c a0df a0d a0ef a0e a0f a0gf a0g a1a a1b a1c a1d a1e a1f a1g a1h a1i a1j a1k a1l a2f a2 u0 R = VF ⟨Try.prog, 64, [3, 4], [], [(3, ⟨[], []⟩)], [], [], [], []⟩ ((Try.f21.body).getD .skip) [.tmp 6, .tmp 7] [(.agg [(pI a0a), (pB a0b), (pS a0c), (.list 6 a0df a0d), (.list 6 a0ef a0e), (pB a0f), (.list 7 a0gf a0g)]), (.agg [(pI a1a), (pS a1b), (pI a1c), (pI a1d), (pS a1e), (pI a1f), (pI a1g), (pS a1h), (pI a1i), (pB a1j), (pB a1k), (pI a1l)]), (.list 4 a2f a2)] u0 R := by kernel_rfl

theorem G_ponderref09_Cond.c {a0a : Int} {a0b : Bool} {a0c : ByteArray} {a0df : Fl} {a0d : List (List PV)} {a0ef : Fl} {a0e : List (List PV)} {a0f : Bool} {a0gf : Fl} {a0g : List (List PV)} {a1a : Int} {a1b : ByteArray} {a1c : Int} {a1d : Int} {a1e : ByteArray} {a1f : Int} {a1g : Int} {a1h : ByteArray} {a1i : Int} {a1j : Bool} {a1k : Bool} {a1l : Int} {a2f : Fl} {a2 : List (List PV)} {u0 : Mem} {K : PV → Mem → Prop} (h : G_ponderref09_Cond.sh a0a a0b a0c a0df a0d a0ef a0e a0f a0gf a0g a1a a1b a1c a1d a1e a1f a1g a1h a1i a1j a1k a1l a2f a2 u0 K) : CallP Try.prog 21 [(.agg [(pI a0a), (pB a0b), (pS a0c), (.list 6 a0df a0d), (.list 6 a0ef a0e), (pB a0f), (.list 7 a0gf a0g)]), (.agg [(pI a1a), (pS a1b), (pI a1c), (pI a1d), (pS a1e), (pI a1f), (pI a1g), (pS a1h), (pI a1i), (pB a1j), (pB a1k), (pI a1l)]), (.list 4 a2f a2)] u0 K :=
  VF_sound (E := ⟨Try.prog, 64, [3, 4], [], [(3, ⟨[], []⟩)], [], [], [], []⟩) (rs := [.tmp 6, .tmp 7]) Try.func21 rfl rfl rfl (by kernel_rfl) (by kernel_rfl) (G_ponderref09_Cond.ok a0a a0b a0c a0df a0d a0ef a0e a0f a0gf a0g a1a a1b a1c a1d a1e a1f a1g a1h a1i a1j a1k a1l a2f a2 u0 K ▸ h)


/-- ponder/test.Some -/
def G_test_Some.sh (a0a : Int) (a0b : Bool) (a0c : ByteArray) (a0df : Fl) (a0d : List (List PV)) (a0ef : Fl) (a0e : List (List PV)) (a0f : Bool) (a0gf : Fl) (a0g : List (List PV)) (a1 : Fn) (a1a a1b : List PV) (a2f : Fl) (a2 : List (List PV)) (u0 : Mem) (R : PV → Mem → Prop) : Prop :=
  ∀ (b5 : Nat), u0 b5 = none →
  ∃ (x7f : Fl) (x7 : List (List PV)), rdM (Mem.set u0 b5 (some (.cells 31 [(.list 4 a2f a2)]))) b5 0 1 = some [(.list 4 x7f x7)] ∧
  CallP Try.prog 28 [(.list 4 x7f x7)] (Mem.set u0 b5 (some (.cells 31 [(.list 4 a2f a2)]))) fun v u =>
  ∃ (x8f : Fl) (x8 : List (List PV)), v = (.list 4 x8f x8) ∧
  stM b5 0 [(.list 4 x8f x8)] u fun u_1 =>
  R (.fn (.func 34) [] [(.fptr [(.fn a1 a1a a1b)] 0), (.fptr [(pI a0a), (pB a0b), (pS a0c), (.list 6 .sh a0d), (.list 6 .sh a0e), (pB a0f), (.list 7 .sh a0g)] 0), (pP b5 0)]) u_1

theorem G_test_Some.ok (a0a : Int) (a0b : Bool) (a0c : ByteArray) (a0df : Fl) (a0d : List (List PV)) (a0ef : Fl) (a0e : List (List PV)) (a0f : Bool) (a0gf : Fl) (a0g : List (List PV)) (a1 : Fn) (a1a a1b : List PV) (a2f : Fl) (a2 : List (List PV)) (u0 : Mem) (R : PV → Mem → Prop) : G_test_Some.sh a0a a0b a0c a0df a0d a0ef a0e a0f a0gf a0g a1 a1a a1b a2f a2 u0 R = VF ⟨Try.prog, 10, [], [], [], [], [3, 4], [], []⟩ ((Try.f22.body).getD .skip) [.tmp 6] [(.agg [(pI a0a), (pB a0b), (pS a0c), (.list 6 a0df a0d), (.list 6 a0ef a0e), (pB a0f), (.list 7 a0gf a0g)]), (.fn a1 a1a a1b), (.list 4 a2f a2)] u0 R := by kernel_rfl

theorem G_test_Some.c {a0a : Int} {a0b : Bool} {a0c : ByteArray} {a0df : Fl} {a0d : List (List PV)} {a0ef : Fl} {a0e : List (List PV)} {a0f : Bool} {a0gf : Fl} {a0g : List (List PV)} {a1 : Fn} {a1a a1b : List PV} {a2f : Fl} {a2 : List (List PV)} {u0 : Mem} {K : PV → Mem → Prop} (h : G_test_Some.sh a0a a0b a0c a0df a0d a0ef a0e a0f a0gf a0g a1 a1a a1b a2f a2 u0 K) : CallP Try.prog 22 [(.agg [(pI a0a), (pB a0b), (pS a0c), (.list 6 a0df a0d), (.list 6 a0ef a0e), (pB a0f), (.list 7 a0gf a0g)]), (.fn a1 a1a a1b), (.list 4 a2f a2)] u0 K :=
  VF_sound (E := ⟨Try.prog, 10, [], [], [], [], [3, 4], [], []⟩) (rs := [.tmp 6]) Try.func22 rfl rfl rfl (by kernel_rfl) (by kernel_rfl) (G_test_Some.ok a0a a0b a0c a0df a0d a0ef a0e a0f a0gf a0g a1 a1a a1b a2f a2 u0 K ▸ h)


/-- ponder/ponderkeep.Of[ponder/api.Elem] -/
def G_ponderkeep_Of_api_Elem.sh (a0f : Fl) (a0 : List (List PV)) (u0 : Mem) (R : PV → Mem → Prop) : Prop :=
  R (.fn (.func 35) [] [(.fptr [(.list 12 .sh a0)] 0)]) u0

theorem G_ponderkeep_Of_api_Elem.ok (a0f : Fl) (a0 : List (List PV)) (u0 : Mem) (R : PV → Mem → Prop) : G_ponderkeep_Of_api_Elem.sh a0f a0 u0 R = VF ⟨Try.prog, 4, [], [], [], [], [1], [], []⟩ ((Try.f23.body).getD .skip) [.tmp 2] [(.list 12 a0f a0)] u0 R := by kernel_rfl

theorem G_ponderkeep_Of_api_Elem.c {a0f : Fl} {a0 : List (List PV)} {u0 : Mem} {K : PV → Mem → Prop} (h : G_ponderkeep_Of_api_Elem.sh a0f a0 u0 K) : CallP Try.prog 23 [(.list 12 a0f a0)] u0 K :=
  VF_sound (E := ⟨Try.prog, 4, [], [], [], [], [1], [], []⟩) (rs := [.tmp 2]) Try.func23 rfl rfl rfl (by kernel_rfl) (by kernel_rfl) (G_ponderkeep_Of_api_Elem.ok a0f a0 u0 K ▸ h)


/-- ponder/ponderkeep.Within -/
def G_ponderkeep_Within.sh (a0 : Int) (a1 : Int) (u0 : Mem) (R : PV → Mem → Prop) : Prop :=
  CIf (decide ((a1 : Int) < (1)))
  (R (pI (0)) u0)
  ((a1 : Int) ≠ 0 ∧
    CIf (decide (((Int.tmod a0 a1) : Int) < (0)))
    (R (pI (IntKind.wrap .i64 ((Int.tmod a0 a1) + a1))) u0)
    (R (pI (Int.tmod a0 a1)) u0))

theorem G_ponderkeep_Within.ok (a0 : Int) (a1 : Int) (u0 : Mem) (R : PV → Mem → Prop) : G_ponderkeep_Within.sh a0 a1 u0 R = VF ⟨Try.prog, 17, [], [], [], [], [], [], []⟩ ((Try.f24.body).getD .skip) [.tmp 4] [(pI a0), (pI a1)] u0 R := by kernel_rfl

theorem G_ponderkeep_Within.c {a0 : Int} {a1 : Int} {u0 : Mem} {K : PV → Mem → Prop} (h : G_ponderkeep_Within.sh a0 a1 u0 K) : CallP Try.prog 24 [(pI a0), (pI a1)] u0 K :=
  VF_sound (E := ⟨Try.prog, 17, [], [], [], [], [], [], []⟩) (rs := [.tmp 4]) Try.func24 rfl rfl rfl (by kernel_rfl) (by kernel_rfl) (G_ponderkeep_Within.ok a0 a1 u0 K ▸ h)


/-- ponder/ponderlaw09.I -/
def G_ponderlaw09_I.sh (a0 : ByteArray) (a1 : Int) (u0 : Mem) (R : PV → Mem → Prop) : Prop :=
  R (.agg [(pI (1)), (pS a0), (pI a1)]) u0

theorem G_ponderlaw09_I.ok (a0 : ByteArray) (a1 : Int) (u0 : Mem) (R : PV → Mem → Prop) : G_ponderlaw09_I.sh a0 a1 u0 R = VF ⟨Try.prog, 8, [4], [], [], [], [], [], []⟩ ((Try.f25.body).getD .skip) [.cell 4 23] [(pS a0), (pI a1)] u0 R := by kernel_rfl

theorem G_ponderlaw09_I.c {a0 : ByteArray} {a1 : Int} {u0 : Mem} {K : PV → Mem → Prop} (h : G_ponderlaw09_I.sh a0 a1 u0 K) : CallP Try.prog 25 [(pS a0), (pI a1)] u0 K :=
  VF_sound (E := ⟨Try.prog, 8, [4], [], [], [], [], [], []⟩) (rs := [.cell 4 23]) Try.func25 rfl rfl rfl (by kernel_rfl) (by kernel_rfl) (G_ponderlaw09_I.ok a0 a1 u0 K ▸ h)


/-- ponder/ponderlaw09.W -/
def G_ponderlaw09_W.sh (a0 : ByteArray) (u0 : Mem) (R : PV → Mem → Prop) : Prop :=
  R (.agg [(pI (3)), (pS a0), (pI (0))]) u0

theorem G_ponderlaw09_W.ok (a0 : ByteArray) (u0 : Mem) (R : PV → Mem → Prop) : G_ponderlaw09_W.sh a0 u0 R = VF ⟨Try.prog, 5, [2], [], [], [], [], [], []⟩ ((Try.f26.body).getD .skip) [.cell 2 23] [(pS a0)] u0 R := by kernel_rfl

theorem G_ponderlaw09_W.c {a0 : ByteArray} {u0 : Mem} {K : PV → Mem → Prop} (h : G_ponderlaw09_W.sh a0 u0 K) : CallP Try.prog 26 [(pS a0)] u0 K :=
  VF_sound (E := ⟨Try.prog, 5, [2], [], [], [], [], [], []⟩) (rs := [.cell 2 23]) Try.func26 rfl rfl rfl (by kernel_rfl) (by kernel_rfl) (G_ponderlaw09_W.ok a0 u0 K ▸ h)


/-- ponder/test.met -/
def G_test_met.sh (a0a : Int) (a0b : ByteArray) (a0c : Int) (a0d : ByteArray) (a0e : Int) (a0ff : Fl) (a0f : List (List PV)) (a1a : Int) (a1b : ByteArray) (a1c : Int) (a2f : Fl) (a2 : List (List PV)) (u0 : Mem) (R : PV → Mem → Prop) : Prop :=
  CIf ((a0a : Int) == (8))
  (LoopI (α := Int) (fun next s u =>
      CIf (decide ((s : Int) < ((List.length a0f : Nat) : Int)))
      ((0 : Int) ≤ s ∧ ∃ (r20 : List PV), (a0f)[Int.toNat s]? = some r20 ∧
        ∃ (x21a : Int), ∃ (x21b : ByteArray), ∃ (x21c : Int), rowM r20 0 3 = some [(pI x21a), (pS x21b), (pI x21c)] ∧
        CIf ((x21a == a1a) && (strEq x21b a1b && ((x21c == a1c) && true)))
        (R (.tup [(.list 4 a2f a2), (pB true)]) u)
        (next (IntKind.wrap .i64 (s + (1))) u))
      (R (.tup [(.list 4 .nil []), (pB false)]) u))
    (0) u0)
  (CIf (decide ((a0a : Int) < (1)))
    (R (.tup [(.list 4 .nil []), (pB false)]) u0)
    (CIf (decide ((a0a : Int) > (7)))
      (R (.tup [(.list 4 .nil []), (pB false)]) u0)
      (CIf (strEq a0b ⟨#[]⟩)
        (CallP Try.prog 9 [(pI a0a), (.agg [(pI a1a), (pS a1b), (pI a1c)]), (.agg [(pI a0c), (pS a0d), (pI a0e)])] u0 fun v u_1 =>
          ∃ (x44 : Bool), v = (pB x44) ∧
          R (.tup [(.list 4 a2f a2), (pB x44)]) u_1)
        (CallP Try.prog 17 [(.list 4 a2f a2), (pS a0b)] u0 fun v_1 u_2 =>
          ∃ (x49pa : Int), ∃ (x49pb : ByteArray), ∃ (x49pc : Int), ∃ (x49q : Bool), v_1 = (.tup [(.agg [(pI x49pa), (pS x49pb), (pI x49pc)]), (pB x49q)]) ∧
          CIf x49q
          (CallP Try.prog 9 [(pI a0a), (.agg [(pI a1a), (pS a1b), (pI a1c)]), (.agg [(pI x49pa), (pS x49pb), (pI x49pc)])] u_2 fun v_2 u_3 =>
            ∃ (x58 : Bool), v_2 = (pB x58) ∧
            R (.tup [(.list 4 a2f a2), (pB x58)]) u_3)
          (CIf ((a0a : Int) != (1))
            (R (.tup [(.list 4 .nil []), (pB false)]) u_2)
            ((0 : Int) ≤ (0 : Int) ∧ (0 : Int) ≤ ((List.length a2 : Nat) : Int) ∧ ((List.length a2 : Nat) : Int) ≤ ((List.length a2 : Nat) : Int) ∧ ((List.length a2 : Nat) : Int) = ((List.length a2 : Nat) : Int) ∧ 
              appL false 4 48 .nr (List.drop (Int.toNat (0 : Int)) (List.take (Int.toNat ((List.length a2 : Nat) : Int)) a2)) [[(pS a0b), (pI a1a), (pS a1b), (pI a1c)]] u_2 fun f73 u_4 =>
              R (.tup [(.list 4 f73 ((List.drop (Int.toNat (0 : Int)) (List.take (Int.toNat ((List.length a2 : Nat) : Int)) a2)) ++ [[(pS a0b), (pI a1a), (pS a1b), (pI a1c)]])), (pB true)]) u_4))))))

theorem G_test_met.ok (a0a : Int) (a0b : ByteArray) (a0c : Int) (a0d : ByteArray) (a0e : Int) (a0ff : Fl) (a0f : List (List PV)) (a1a : Int) (a1b : ByteArray) (a1c : Int) (a2f : Fl) (a2 : List (List PV)) (u0 : Mem) (R : PV → Mem → Prop) : G_test_met.sh a0a a0b a0c a0d a0e a0ff a0f a1a a1b a1c a2f a2 u0 R = VF ⟨Try.prog, 74, [3, 4, 9, 10], [(3, ⟨[(18, .one (.raw (.int .i64)))], []⟩)], [], [], [], [], []⟩ ((Try.f27.body).getD .skip) [.tmp 6, .tmp 7] [(.agg [(pI a0a), (pS a0b), (pI a0c), (pS a0d), (pI a0e), (.list 3 a0ff a0f)]), (.agg [(pI a1a), (pS a1b), (pI a1c)]), (.list 4 a2f a2)] u0 R := by kernel_rfl

theorem G_test_met.c {a0a : Int} {a0b : ByteArray} {a0c : Int} {a0d : ByteArray} {a0e : Int} {a0ff : Fl} {a0f : List (List PV)} {a1a : Int} {a1b : ByteArray} {a1c : Int} {a2f : Fl} {a2 : List (List PV)} {u0 : Mem} {K : PV → Mem → Prop} (h : G_test_met.sh a0a a0b a0c a0d a0e a0ff a0f a1a a1b a1c a2f a2 u0 K) : CallP Try.prog 27 [(.agg [(pI a0a), (pS a0b), (pI a0c), (pS a0d), (pI a0e), (.list 3 a0ff a0f)]), (.agg [(pI a1a), (pS a1b), (pI a1c)]), (.list 4 a2f a2)] u0 K :=
  VF_sound (E := ⟨Try.prog, 74, [3, 4, 9, 10], [(3, ⟨[(18, .one (.raw (.int .i64)))], []⟩)], [], [], [], [], []⟩) (rs := [.tmp 6, .tmp 7]) Try.func27 rfl rfl rfl (by kernel_rfl) (by kernel_rfl) (G_test_met.ok a0a a0b a0c a0d a0e a0ff a0f a1a a1b a1c a2f a2 u0 K ▸ h)


/-- ponder/test.own -/
def G_test_own.sh (a0f : Fl) (a0 : List (List PV)) (u0 : Mem) (R : PV → Mem → Prop) : Prop :=
  appL false 4 48 .nil [] a0 u0 fun f4 u =>
  R (.list 4 f4 ([] ++ a0)) u

theorem G_test_own.ok (a0f : Fl) (a0 : List (List PV)) (u0 : Mem) (R : PV → Mem → Prop) : G_test_own.sh a0f a0 u0 R = VF ⟨Try.prog, 5, [], [], [], [], [], [], []⟩ ((Try.f28.body).getD .skip) [.tmp 2] [(.list 4 a0f a0)] u0 R := by kernel_rfl

theorem G_test_own.c {a0f : Fl} {a0 : List (List PV)} {u0 : Mem} {K : PV → Mem → Prop} (h : G_test_own.sh a0f a0 u0 K) : CallP Try.prog 28 [(.list 4 a0f a0)] u0 K :=
  VF_sound (E := ⟨Try.prog, 5, [], [], [], [], [], [], []⟩) (rs := [.tmp 2]) Try.func28 rfl rfl rfl (by kernel_rfl) (by kernel_rfl) (G_test_own.ok a0f a0 u0 K ▸ h)


/-- ponder/test.own -/
def G_test_own_w.sh (a0f : Fl) (a0 : List (List PV)) (u0 : Mem) (R : PV → Mem → Prop) : Prop :=
  appR 4 48 34 none 0 0 (.list 4 a0f a0) u0 fun s4 s4n s4c u =>
  R (.raw (.slice s4 s4n s4c)) u

theorem G_test_own_w.ok (a0f : Fl) (a0 : List (List PV)) (u0 : Mem) (R : PV → Mem → Prop) : G_test_own_w.sh a0f a0 u0 R = VF ⟨Try.prog, 5, [], [], [], [], [], [], [4]⟩ ((Try.f28.body).getD .skip) [.tmp 2] [(.list 4 a0f a0)] u0 R := by kernel_rfl

theorem G_test_own_w.c {a0f : Fl} {a0 : List (List PV)} {u0 : Mem} {K : PV → Mem → Prop} (h : G_test_own_w.sh a0f a0 u0 K) : CallP Try.prog 28 [(.list 4 a0f a0)] u0 K :=
  VF_sound (E := ⟨Try.prog, 5, [], [], [], [], [], [], [4]⟩) (rs := [.tmp 2]) Try.func28 rfl rfl rfl (by kernel_rfl) (by kernel_rfl) (G_test_own_w.ok a0f a0 u0 K ▸ h)


/-- ponder/ponderref09.more -/
def G_ponderref09_more.sh (a0f : Fl) (a0 : List (List PV)) (a1 : ByteArray) (a2a : Int) (a2b : ByteArray) (a2c : Int) (u0 : Mem) (R : PV → Mem → Prop) : Prop :=
  (appL true 4 48 .nil [] a0 u0 fun f8 u =>
    appL false 4 48 f8 ([] ++ a0) [[(pS a1), (pI a2a), (pS a2b), (pI a2c)]] u fun f13 u_1 =>
    R (.list 4 f13 (([] ++ a0) ++ [[(pS a1), (pI a2a), (pS a2b), (pI a2c)]])) u_1) ∧
  (appL true 4 48 .nil [] a0 u0 fun f8_1 u_2 =>
    appL false 4 48 f8_1 ([] ++ a0) [[(pS a1), (pI a2a), (pS a2b), (pI a2c)]] u_2 fun f13_1 u_3 =>
    R (.list 4 f13_1 (([] ++ a0) ++ [[(pS a1), (pI a2a), (pS a2b), (pI a2c)]])) u_3)

theorem G_ponderref09_more.ok (a0f : Fl) (a0 : List (List PV)) (a1 : ByteArray) (a2a : Int) (a2b : ByteArray) (a2c : Int) (u0 : Mem) (R : PV → Mem → Prop) : G_ponderref09_more.sh a0f a0 a1 a2a a2b a2c u0 R = VF ⟨Try.prog, 14, [5], [], [], [], [], [], []⟩ ((Try.f29.body).getD .skip) [.tmp 6] [(.list 4 a0f a0), (pS a1), (.agg [(pI a2a), (pS a2b), (pI a2c)])] u0 R := by kernel_rfl

theorem G_ponderref09_more.c {a0f : Fl} {a0 : List (List PV)} {a1 : ByteArray} {a2a : Int} {a2b : ByteArray} {a2c : Int} {u0 : Mem} {K : PV → Mem → Prop} (h : G_ponderref09_more.sh a0f a0 a1 a2a a2b a2c u0 K) : CallP Try.prog 29 [(.list 4 a0f a0), (pS a1), (.agg [(pI a2a), (pS a2b), (pI a2c)])] u0 K :=
  VF_sound (E := ⟨Try.prog, 14, [5], [], [], [], [], [], []⟩) (rs := [.tmp 6]) Try.func29 rfl rfl rfl (by kernel_rfl) (by kernel_rfl) (G_ponderref09_more.ok a0f a0 a1 a2a a2b a2c u0 K ▸ h)


/-- ponder/ponderkeep.HeavyConds -/
def G_ponderkeep_HeavyConds.sh (a0f : Fl) (a0 : List (List PV)) (u0 : Mem) (R : PV → Mem → Prop) : Prop :=
  LoopI (α := Int) (fun next s u =>
    CIf (decide ((s : Int) < ((List.length a0 : Nat) : Int)))
    ((0 : Int) ≤ s ∧ ∃ (r13 : List PV), (a0)[Int.toNat s]? = some r13 ∧
      ∃ (x14a : Int), ∃ (x14b : Bool), ∃ (x14c : ByteArray), ∃ (x14df : Fl) (x14d : List (List PV)), ∃ (x14ef : Fl) (x14e : List (List PV)), ∃ (x14f : Bool), ∃ (x14gf : Fl) (x14g : List (List PV)), rowM r13 0 7 = some [(pI x14a), (pB x14b), (pS x14c), (.list 6 x14df x14d), (.list 6 x14ef x14e), (pB x14f), (.list 7 x14gf x14g)] ∧
      CIf (decide ((((ByteArray.size x14c : Nat) : Int) : Int) > (100)))
      (R (pB true) u)
      (CIf (decide ((((List.length x14d : Nat) : Int) : Int) > (10)))
        (R (pB true) u)
        (CIf (decide ((((List.length x14e : Nat) : Int) : Int) > (10)))
          (R (pB true) u)
          (CallP Try.prog 36 [(.list 6 x14df x14d)] u fun v u_1 =>
            ∃ (x34 : Bool), v = (pB x34) ∧
            CIf x34
            (R (pB true) u_1)
            (CallP Try.prog 36 [(.list 6 x14ef x14e)] u_1 fun v_1 u_2 =>
              ∃ (x39 : Bool), v_1 = (pB x39) ∧
              CIf x39
              (R (pB true) u_2)
              (CallP Try.prog 30 [(.list 7 x14gf x14g)] u_2 fun v_2 u_3 =>
                ∃ (x44 : Bool), v_2 = (pB x44) ∧
                CIf x44
                (R (pB true) u_3)
                (next (IntKind.wrap .i64 (s + (1))) u_3)))))))
    (R (pB false) u))
  (0) u0

theorem G_ponderkeep_HeavyConds.ok (a0f : Fl) (a0 : List (List PV)) (u0 : Mem) (R : PV → Mem → Prop) : G_ponderkeep_HeavyConds.sh a0f a0 u0 R = VF ⟨Try.prog, 46, [4], [(2, ⟨[(3, .one (.raw (.int .i64)))], []⟩)], [], [], [], [], []⟩ ((Try.f30.body).getD .skip) [.tmp 2] [(.list 7 a0f a0)] u0 R := by kernel_rfl

theorem G_ponderkeep_HeavyConds.c {a0f : Fl} {a0 : List (List PV)} {u0 : Mem} {K : PV → Mem → Prop} (h : G_ponderkeep_HeavyConds.sh a0f a0 u0 K) : CallP Try.prog 30 [(.list 7 a0f a0)] u0 K :=
  VF_sound (E := ⟨Try.prog, 46, [4], [(2, ⟨[(3, .one (.raw (.int .i64)))], []⟩)], [], [], [], [], []⟩) (rs := [.tmp 2]) Try.func30 rfl rfl rfl (by kernel_rfl) (by kernel_rfl) (G_ponderkeep_HeavyConds.ok a0f a0 u0 K ▸ h)


/-- ponder/ponderkeep.Size -/
def G_ponderkeep_Size.sh (a0f : Fl) (a0 : List (List PV)) (a1 : Int) (a2 : Int) (u0 : Mem) (R : PV → Mem → Prop) : Prop :=
  CIf (decide ((a2 : Int) > (20)))
  (R (pI (IntKind.wrap .i64 (a1 + (1)))) u0)
  (CJoin (α := Int) (fun J =>
      LoopI (α := Int × Int) (fun next s_1 u_1 =>
        CIf (decide ((s_1.2 : Int) < ((List.length a0 : Nat) : Int)))
        (CIf (decide ((s_1.1 : Int) ≤ a1))
          ((0 : Int) ≤ s_1.2 ∧ ∃ (r27 : List PV), (a0)[Int.toNat s_1.2]? = some r27 ∧
            ∃ (x29f : Fl) (x29 : List (List PV)), rowM r27 6 1 = some [(.list 7 x29f x29)] ∧
            CallP Try.prog 31 [(.list 7 x29f x29), (pI a1), (pI (IntKind.wrap .i64 (a2 + (1))))] u_1 fun v u_2 =>
            ∃ (x33 : Int), v = (pI x33) ∧
            next ((IntKind.wrap .i64 (s_1.1 + (IntKind.wrap .i64 ((1) + x33)))), (IntKind.wrap .i64 (s_1.2 + (1)))) u_2)
          (J s_1.1 u_1))
        (J s_1.1 u_1))
      ((0), (0)) u0)
    (fun s u =>
      R (pI (if (IntKind.wrap .i64 (a1 + (1))) < s then (IntKind.wrap .i64 (a1 + (1))) else s)) u))

theorem G_ponderkeep_Size.ok (a0f : Fl) (a0 : List (List PV)) (a1 : Int) (a2 : Int) (u0 : Mem) (R : PV → Mem → Prop) : G_ponderkeep_Size.sh a0f a0 a1 a2 u0 R = VF ⟨Try.prog, 40, [], [(5, ⟨[(7, .one (.raw (.int .i64))), (8, .one (.raw (.int .i64)))], []⟩)], [(8, ⟨[(7, .one (.raw (.int .i64)))], []⟩)], [], [], [], []⟩ ((Try.f31.body).getD .skip) [.tmp 6] [(.list 7 a0f a0), (pI a1), (pI a2)] u0 R := by kernel_rfl

theorem G_ponderkeep_Size.c {a0f : Fl} {a0 : List (List PV)} {a1 : Int} {a2 : Int} {u0 : Mem} {K : PV → Mem → Prop} (h : G_ponderkeep_Size.sh a0f a0 a1 a2 u0 K) : CallP Try.prog 31 [(.list 7 a0f a0), (pI a1), (pI a2)] u0 K :=
  VF_sound (E := ⟨Try.prog, 40, [], [(5, ⟨[(7, .one (.raw (.int .i64))), (8, .one (.raw (.int .i64)))], []⟩)], [(8, ⟨[(7, .one (.raw (.int .i64)))], []⟩)], [], [], [], []⟩) (rs := [.tmp 6]) Try.func31 rfl rfl rfl (by kernel_rfl) (by kernel_rfl) (G_ponderkeep_Size.ok a0f a0 a1 a2 u0 K ▸ h)


/-- ponder/test.all -/
def G_test_all.sh (a0f : Fl) (a0 : List (List PV)) (a1a : Int) (a1b : ByteArray) (a1c : Int) (a2f : Fl) (a2 : List (List PV)) (u0 : Mem) (R : PV → Mem → Prop) : Prop :=
  LoopI (α := (Fl × List (List PV)) × Int) (fun next s u =>
    CIf (decide ((s.2 : Int) < ((List.length a0 : Nat) : Int)))
    ((0 : Int) ≤ s.2 ∧ ∃ (r16 : List PV), (a0)[Int.toNat s.2]? = some r16 ∧
      ∃ (x17a : Int), ∃ (x17b : ByteArray), ∃ (x17c : Int), ∃ (x17d : ByteArray), ∃ (x17e : Int), ∃ (x17ff : Fl) (x17f : List (List PV)), rowM r16 0 6 = some [(pI x17a), (pS x17b), (pI x17c), (pS x17d), (pI x17e), (.list 3 x17ff x17f)] ∧
      CallP Try.prog 27 [(.agg [(pI x17a), (pS x17b), (pI x17c), (pS x17d), (pI x17e), (.list 3 .sh x17f)]), (.agg [(pI a1a), (pS a1b), (pI a1c)]), (.list 4 s.1.1 s.1.2)] u fun v u_1 =>
      ∃ (x22pf : Fl) (x22p : List (List PV)), ∃ (x22q : Bool), v = (.tup [(.list 4 x22pf x22p), (pB x22q)]) ∧
      CIf (!x22q)
      (R (.tup [(.list 4 .nil []), (pB false)]) u_1)
      (next ((x22pf, x22p), (IntKind.wrap .i64 (s.2 + (1)))) u_1))
    (R (.tup [(.list 4 s.1.1 s.1.2), (pB true)]) u))
  ((a2f, a2), (0)) u0

theorem G_test_all.ok (a0f : Fl) (a0 : List (List PV)) (a1a : Int) (a1b : ByteArray) (a1c : Int) (a2f : Fl) (a2 : List (List PV)) (u0 : Mem) (R : PV → Mem → Prop) : G_test_all.sh a0f a0 a1a a1b a1c a2f a2 u0 R = VF ⟨Try.prog, 30, [4, 9], [(2, ⟨[(2, .one (.list 4)), (14, .one (.raw (.int .i64)))], []⟩)], [], [], [], [], []⟩ ((Try.f32.body).getD .skip) [.tmp 6, .tmp 7] [(.list 6 a0f a0), (.agg [(pI a1a), (pS a1b), (pI a1c)]), (.list 4 a2f a2)] u0 R := by kernel_rfl

theorem G_test_all.c {a0f : Fl} {a0 : List (List PV)} {a1a : Int} {a1b : ByteArray} {a1c : Int} {a2f : Fl} {a2 : List (List PV)} {u0 : Mem} {K : PV → Mem → Prop} (h : G_test_all.sh a0f a0 a1a a1b a1c a2f a2 u0 K) : CallP Try.prog 32 [(.list 6 a0f a0), (.agg [(pI a1a), (pS a1b), (pI a1c)]), (.list 4 a2f a2)] u0 K :=
  VF_sound (E := ⟨Try.prog, 30, [4, 9], [(2, ⟨[(2, .one (.list 4)), (14, .one (.raw (.int .i64)))], []⟩)], [], [], [], [], []⟩) (rs := [.tmp 6, .tmp 7]) Try.func32 rfl rfl rfl (by kernel_rfl) (by kernel_rfl) (G_test_all.ok a0f a0 a1a a1b a1c a2f a2 u0 K ▸ h)


/-- ponder/ponderref09.tests -/
def G_ponderref09_tests.sh (a0f : Fl) (a0 : List (List PV)) (a1a : Int) (a1b : ByteArray) (a1c : Int) (a2f : Fl) (a2 : List (List PV)) (u0 : Mem) (R : PV → Mem → Prop) : Prop :=
  LoopI (α := (Fl × List (List PV)) × Int) (fun next s u =>
    CIf (decide ((s.2 : Int) < ((List.length a0 : Nat) : Int)))
    ((0 : Int) ≤ s.2 ∧ ∃ (r20 : List PV), (a0)[Int.toNat s.2]? = some r20 ∧
      ∃ (x21a : Int), ∃ (x21b : ByteArray), ∃ (x21c : Int), ∃ (x21d : ByteArray), ∃ (x21e : Int), ∃ (x21ff : Fl) (x21f : List (List PV)), rowM r20 0 6 = some [(pI x21a), (pS x21b), (pI x21c), (pS x21d), (pI x21e), (.list 3 x21ff x21f)] ∧
      CallP Try.prog 15 [(.agg [(pI x21a), (pS x21b), (pI x21c), (pS x21d), (pI x21e), (.list 3 .sh x21f)]), (.agg [(pI a1a), (pS a1b), (pI a1c)]), (.list 4 s.1.1 s.1.2)] u fun v u_1 =>
      ∃ (x24pf : Fl) (x24p : List (List PV)), ∃ (x24q : Bool), v = (.tup [(.list 4 x24pf x24p), (pB x24q)]) ∧
      CIf (!x24q)
      (R (.tup [(.list 4 .nil []), (pB false)]) u_1)
      (next ((x24pf, x24p), (IntKind.wrap .i64 (s.2 + (1)))) u_1))
    (R (.tup [(.list 4 s.1.1 s.1.2), (pB true)]) u))
  ((a2f, a2), (0)) u0

theorem G_ponderref09_tests.ok (a0f : Fl) (a0 : List (List PV)) (a1a : Int) (a1b : ByteArray) (a1c : Int) (a2f : Fl) (a2 : List (List PV)) (u0 : Mem) (R : PV → Mem → Prop) : G_ponderref09_tests.sh a0f a0 a1a a1b a1c a2f a2 u0 R = VF ⟨Try.prog, 31, [4], [(2, ⟨[(2, .one (.list 4)), (8, .one (.raw (.int .i64)))], []⟩)], [], [], [], [], []⟩ ((Try.f33.body).getD .skip) [.tmp 6, .tmp 7] [(.list 6 a0f a0), (.agg [(pI a1a), (pS a1b), (pI a1c)]), (.list 4 a2f a2)] u0 R := by kernel_rfl

theorem G_ponderref09_tests.c {a0f : Fl} {a0 : List (List PV)} {a1a : Int} {a1b : ByteArray} {a1c : Int} {a2f : Fl} {a2 : List (List PV)} {u0 : Mem} {K : PV → Mem → Prop} (h : G_ponderref09_tests.sh a0f a0 a1a a1b a1c a2f a2 u0 K) : CallP Try.prog 33 [(.list 6 a0f a0), (.agg [(pI a1a), (pS a1b), (pI a1c)]), (.list 4 a2f a2)] u0 K :=
  VF_sound (E := ⟨Try.prog, 31, [4], [(2, ⟨[(2, .one (.list 4)), (8, .one (.raw (.int .i64)))], []⟩)], [], [], [], [], []⟩) (rs := [.tmp 6, .tmp 7]) Try.func33 rfl rfl rfl (by kernel_rfl) (by kernel_rfl) (G_ponderref09_tests.ok a0f a0 a1a a1b a1c a2f a2 u0 K ▸ h)


/-- ponder/test.Some$1 -/
def G_test_Some_1.sh (a0 : Fn) (a0a a0b : List PV) (c0 : List PV) (c1 : List PV) (c2 : List PV) (u0 : Mem) (R : PV → Mem → Prop) : Prop :=
  ∀ (b4 : Nat), u0 b4 = none →
  ∃ (x8 : Fn) (x8a x8b : List PV), rowM c0 0 1 = some [(.fn x8 x8a x8b)] ∧
  ∃ (x10 : Fn) (x10a x10b : List PV), rowM c0 0 1 = some [(.fn x10 x10a x10b)] ∧
  RangeP Try.prog (.fn x10 x10a x10b) (fun vs RR u =>
    ∃ (x11a : Int), ∃ (x11b : ByteArray), ∃ (x11c : Int), ∃ (x11d : Int), ∃ (x11e : ByteArray), ∃ (x11f : Int), ∃ (x11g : Int), ∃ (x11h : ByteArray), ∃ (x11i : Int), ∃ (x11j : Bool), ∃ (x11k : Bool), ∃ (x11l : Int), vs = [(.agg [(pI x11a), (pS x11b), (pI x11c), (pI x11d), (pS x11e), (pI x11f), (pI x11g), (pS x11h), (pI x11i), (pB x11j), (pB x11k), (pI x11l)])] ∧
    ∃ (x13a : Int), ∃ (x13b : Bool), ∃ (x13c : ByteArray), ∃ (x13df : Fl) (x13d : List (List PV)), ∃ (x13ef : Fl) (x13e : List (List PV)), ∃ (x13f : Bool), ∃ (x13gf : Fl) (x13g : List (List PV)), rowM c1 0 7 = some [(pI x13a), (pB x13b), (pS x13c), (.list 6 x13df x13d), (.list 6 x13ef x13e), (pB x13f), (.list 7 x13gf x13g)] ∧
    ∃ (x15f : Fl) (x15 : List (List PV)), rowM c2 0 1 = some [(.list 4 x15f x15)] ∧
    CallP Try.prog 20 [(.agg [(pI x13a), (pB x13b), (pS x13c), (.list 6 .sh x13d), (.list 6 .sh x13e), (pB x13f), (.list 7 .sh x13g)]), (.agg [(pI x11a), (pS x11b), (pI x11c), (pI x11d), (pS x11e), (pI x11f), (pI x11g), (pS x11h), (pI x11i), (pB x11j), (pB x11k), (pI x11l)]), (.list 4 x15f x15)] u fun v u_2 =>
    ∃ (x16pf : Fl) (x16p : List (List PV)), ∃ (x16q : Bool), v = (.tup [(.list 4 x16pf x16p), (pB x16q)]) ∧
    CIf x16q
    (∃ (x21 : Fn) (x21a x21b : List PV), rdM u_2 b4 0 1 = some [(.fn x21 x21a x21b)] ∧
      CallVP Try.prog (.fn x21 x21a x21b) [(.agg [(pI x11a), (pS x11b), (pI x11c), (pI x11d), (pS x11e), (pI x11f), (pI x11g), (pS x11h), (pI x11i), (pB x11j), (pB x11k), (pI x11l)]), (.list 4 x16pf x16p)] u_2 fun v_1 u_3 =>
      ∃ (x24 : Bool), v_1 = (pB x24) ∧
      CIf (!x24)
      (RR (some .ret) u_3)
      (RR none u_3))
    (RR none u_2))
  (fun p u_1 =>
    PK p
    (R (.tup []) u_1)
    (R (.tup []) u_1)
    [])
  (Mem.set u0 b4 (some (.cells 67 [(.fn a0 a0a a0b)])))

theorem G_test_Some_1.ok (a0 : Fn) (a0a a0b : List PV) (c0 : List PV) (c1 : List PV) (c2 : List PV) (u0 : Mem) (R : PV → Mem → Prop) : G_test_Some_1.sh a0 a0a a0b c0 c1 c2 u0 R = VF ⟨Try.prog, 27, [5], [], [], [(11, [47])], [], [], []⟩ ((Try.f34.body).getD .skip) [] [(.fn a0 a0a a0b), (.fptr c0 0), (.fptr c1 0), (.fptr c2 0)] u0 R := by kernel_rfl

theorem G_test_Some_1.c {a0 : Fn} {a0a a0b : List PV} {c0 : List PV} {c1 : List PV} {c2 : List PV} {u0 : Mem} {K : PV → Mem → Prop} (h : G_test_Some_1.sh a0 a0a a0b c0 c1 c2 u0 K) : CallP Try.prog 34 [(.fn a0 a0a a0b), (.fptr c0 0), (.fptr c1 0), (.fptr c2 0)] u0 K :=
  VF_sound (E := ⟨Try.prog, 27, [5], [], [], [(11, [47])], [], [], []⟩) (rs := []) Try.func34 rfl rfl rfl (by kernel_rfl) (by kernel_rfl) (G_test_Some_1.ok a0 a0a a0b c0 c1 c2 u0 K ▸ h)


/-- ponder/test.Some$1 -/
def G_test_Some_1_w.sh (a0 : Fn) (a0a a0b : List PV) (c0 : List PV) (c1 : List PV) (c2 : List PV) (u0 : Mem) (R : PV → Mem → Prop) : Prop :=
  ∀ (b4 : Nat), u0 b4 = none →
  ∃ (x8 : Fn) (x8a x8b : List PV), rowM c0 0 1 = some [(.fn x8 x8a x8b)] ∧
  ∃ (x10 : Fn) (x10a x10b : List PV), rowM c0 0 1 = some [(.fn x10 x10a x10b)] ∧
  RangeP Try.prog (.fn x10 x10a x10b) (fun vs RR u =>
    ∃ (x11a : Int), ∃ (x11b : ByteArray), ∃ (x11c : Int), ∃ (x11d : Int), ∃ (x11e : ByteArray), ∃ (x11f : Int), ∃ (x11g : Int), ∃ (x11h : ByteArray), ∃ (x11i : Int), ∃ (x11j : Bool), ∃ (x11k : Bool), ∃ (x11l : Int), vs = [(.agg [(pI x11a), (pS x11b), (pI x11c), (pI x11d), (pS x11e), (pI x11f), (pI x11g), (pS x11h), (pI x11i), (pB x11j), (pB x11k), (pI x11l)])] ∧
    ∃ (x13a : Int), ∃ (x13b : Bool), ∃ (x13c : ByteArray), ∃ (x13df : Fl) (x13d : List (List PV)), ∃ (x13ef : Fl) (x13e : List (List PV)), ∃ (x13f : Bool), ∃ (x13gf : Fl) (x13g : List (List PV)), rowM c1 0 7 = some [(pI x13a), (pB x13b), (pS x13c), (.list 6 x13df x13d), (.list 6 x13ef x13e), (pB x13f), (.list 7 x13gf x13g)] ∧
    ∃ (x15f : Fl) (x15 : List (List PV)), rowM c2 0 1 = some [(.list 4 x15f x15)] ∧
    CallP Try.prog 20 [(.agg [(pI x13a), (pB x13b), (pS x13c), (.list 6 .sh x13d), (.list 6 .sh x13e), (pB x13f), (.list 7 .sh x13g)]), (.agg [(pI x11a), (pS x11b), (pI x11c), (pI x11d), (pS x11e), (pI x11f), (pI x11g), (pS x11h), (pI x11i), (pB x11j), (pB x11k), (pI x11l)]), (.list 4 x15f x15)] u fun v u_2 =>
    ∃ (x16p : Option Addr) (x16pn x16pc : Nat), ∃ (x16q : Bool), v = (.tup [(.raw (.slice x16p x16pn x16pc)), (pB x16q)]) ∧
    CIf x16q
    (∃ (x21 : Fn) (x21a x21b : List PV), rdM u_2 b4 0 1 = some [(.fn x21 x21a x21b)] ∧
      CallVP Try.prog (.fn x21 x21a x21b) [(.agg [(pI x11a), (pS x11b), (pI x11c), (pI x11d), (pS x11e), (pI x11f), (pI x11g), (pS x11h), (pI x11i), (pB x11j), (pB x11k), (pI x11l)]), (.raw (.slice x16p x16pn x16pc))] u_2 fun v_1 u_3 =>
      ∃ (x24 : Bool), v_1 = (pB x24) ∧
      CIf (!x24)
      (RR (some .ret) u_3)
      (RR none u_3))
    (RR none u_2))
  (fun p u_1 =>
    PK p
    (R (.tup []) u_1)
    (R (.tup []) u_1)
    [])
  (Mem.set u0 b4 (some (.cells 67 [(.fn a0 a0a a0b)])))

theorem G_test_Some_1_w.ok (a0 : Fn) (a0a a0b : List PV) (c0 : List PV) (c1 : List PV) (c2 : List PV) (u0 : Mem) (R : PV → Mem → Prop) : G_test_Some_1_w.sh a0 a0a a0b c0 c1 c2 u0 R = VF ⟨Try.prog, 27, [5], [], [], [(11, [47])], [], [], [16]⟩ ((Try.f34.body).getD .skip) [] [(.fn a0 a0a a0b), (.fptr c0 0), (.fptr c1 0), (.fptr c2 0)] u0 R := by kernel_rfl

theorem G_test_Some_1_w.c {a0 : Fn} {a0a a0b : List PV} {c0 : List PV} {c1 : List PV} {c2 : List PV} {u0 : Mem} {K : PV → Mem → Prop} (h : G_test_Some_1_w.sh a0 a0a a0b c0 c1 c2 u0 K) : CallP Try.prog 34 [(.fn a0 a0a a0b), (.fptr c0 0), (.fptr c1 0), (.fptr c2 0)] u0 K :=
  VF_sound (E := ⟨Try.prog, 27, [5], [], [], [(11, [47])], [], [], [16]⟩) (rs := []) Try.func34 rfl rfl rfl (by kernel_rfl) (by kernel_rfl) (G_test_Some_1_w.ok a0 a0a a0b c0 c1 c2 u0 K ▸ h)


/-- ponder/ponderkeep.Of[ponder/api.Elem]$1 -/
def G_ponderkeep_Of_api_Elem_1.sh (a0 : Fn) (a0a a0b : List PV) (c0 : List PV) (u0 : Mem) (R : PV → Mem → Prop) : Prop :=
  LoopI (α := Int) (fun next s u =>
    ∃ (x5f : Fl) (x5 : List (List PV)), rowM c0 0 1 = some [(.list 12 x5f x5)] ∧
    CIf (decide ((s : Int) < ((List.length x5 : Nat) : Int)))
    (∃ (x11f : Fl) (x11 : List (List PV)), rowM c0 0 1 = some [(.list 12 x11f x11)] ∧
      (0 : Int) ≤ s ∧ ∃ (r13 : List PV), (x11)[Int.toNat s]? = some r13 ∧
      ∃ (x14a : Int), ∃ (x14b : ByteArray), ∃ (x14c : Int), ∃ (x14d : Int), ∃ (x14e : ByteArray), ∃ (x14f : Int), ∃ (x14g : Int), ∃ (x14h : ByteArray), ∃ (x14i : Int), ∃ (x14j : Bool), ∃ (x14k : Bool), ∃ (x14l : Int), rowM r13 0 12 = some [(pI x14a), (pS x14b), (pI x14c), (pI x14d), (pS x14e), (pI x14f), (pI x14g), (pS x14h), (pI x14i), (pB x14j), (pB x14k), (pI x14l)] ∧
      CallVP Try.prog (.fn a0 a0a a0b) [(.agg [(pI x14a), (pS x14b), (pI x14c), (pI x14d), (pS x14e), (pI x14f), (pI x14g), (pS x14h), (pI x14i), (pB x14j), (pB x14k), (pI x14l)])] u fun v u_1 =>
      ∃ (x15 : Bool), v = (pB x15) ∧
      CIf (!x15)
      (R (.tup []) u_1)
      (next (IntKind.wrap .i64 (s + (1))) u_1))
    (R (.tup []) u))
  (0) u0

theorem G_ponderkeep_Of_api_Elem_1.ok (a0 : Fn) (a0a a0b : List PV) (c0 : List PV) (u0 : Mem) (R : PV → Mem → Prop) : G_ponderkeep_Of_api_Elem_1.sh a0 a0a a0b c0 u0 R = VF ⟨Try.prog, 17, [], [(1, ⟨[(3, .one (.raw (.int .i64)))], []⟩)], [], [], [], [], []⟩ ((Try.f35.body).getD .skip) [] [(.fn a0 a0a a0b), (.fptr c0 0)] u0 R := by kernel_rfl

theorem G_ponderkeep_Of_api_Elem_1.c {a0 : Fn} {a0a a0b : List PV} {c0 : List PV} {u0 : Mem} {K : PV → Mem → Prop} (h : G_ponderkeep_Of_api_Elem_1.sh a0 a0a a0b c0 u0 K) : CallP Try.prog 35 [(.fn a0 a0a a0b), (.fptr c0 0)] u0 K :=
  VF_sound (E := ⟨Try.prog, 17, [], [(1, ⟨[(3, .one (.raw (.int .i64)))], []⟩)], [], [], [], [], []⟩) (rs := []) Try.func35 rfl rfl rfl (by kernel_rfl) (by kernel_rfl) (G_ponderkeep_Of_api_Elem_1.ok a0 a0a a0b c0 u0 K ▸ h)


/-- ponder/ponderkeep.heavyTests -/
def G_ponderkeep_heavyTests.sh (a0f : Fl) (a0 : List (List PV)) (u0 : Mem) (R : PV → Mem → Prop) : Prop :=
  LoopI (α := Int) (fun next s u =>
    CIf (decide ((s : Int) < ((List.length a0 : Nat) : Int)))
    ((0 : Int) ≤ s ∧ ∃ (r12 : List PV), (a0)[Int.toNat s]? = some r12 ∧
      ∃ (x14f : Fl) (x14 : List (List PV)), rowM r12 5 1 = some [(.list 3 x14f x14)] ∧
      CIf (decide ((((List.length x14 : Nat) : Int) : Int) > (20)))
      (R (pB true) u)
      ((0 : Int) ≤ s ∧ ∃ (r20 : List PV), (a0)[Int.toNat s]? = some r20 ∧
        ∃ (x22 : ByteArray), rowM r20 1 1 = some [(pS x22)] ∧
        CIf (decide ((((ByteArray.size x22 : Nat) : Int) : Int) > (100)))
        (R (pB true) u)
        ((0 : Int) ≤ s ∧ ∃ (r29 : List PV), (a0)[Int.toNat s]? = some r29 ∧
          ∃ (x32 : ByteArray), rowM r29 3 1 = some [(pS x32)] ∧
          CIf (decide ((((ByteArray.size x32 : Nat) : Int) : Int) > (100)))
          (R (pB true) u)
          (next (IntKind.wrap .i64 (s + (1))) u))))
    (R (pB false) u))
  (0) u0

theorem G_ponderkeep_heavyTests.ok (a0f : Fl) (a0 : List (List PV)) (u0 : Mem) (R : PV → Mem → Prop) : G_ponderkeep_heavyTests.sh a0f a0 u0 R = VF ⟨Try.prog, 36, [], [(2, ⟨[(3, .one (.raw (.int .i64)))], []⟩)], [], [], [], [], []⟩ ((Try.f36.body).getD .skip) [.tmp 2] [(.list 6 a0f a0)] u0 R := by kernel_rfl

theorem G_ponderkeep_heavyTests.c {a0f : Fl} {a0 : List (List PV)} {u0 : Mem} {K : PV → Mem → Prop} (h : G_ponderkeep_heavyTests.sh a0f a0 u0 K) : CallP Try.prog 36 [(.list 6 a0f a0)] u0 K :=
  VF_sound (E := ⟨Try.prog, 36, [], [(2, ⟨[(3, .one (.raw (.int .i64)))], []⟩)], [], [], [], [], []⟩) (rs := [.tmp 2]) Try.func36 rfl rfl rfl (by kernel_rfl) (by kernel_rfl) (G_ponderkeep_heavyTests.ok a0f a0 u0 K ▸ h)


end Go.Proofs.Ytfliaomdedfleaa

/- All formulas. -/
