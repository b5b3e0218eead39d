import Derived.Test.YtfjemjnbemdkgaaCh6X
import Derived.Test.YtfjemjnbemdkgaaPvW
/-
  The laws of chapter 6: constants.
-/
namespace Go.Proofs.Ytfjemjnbemdkgaa
open Go.Eng Go.RowKit
set_option linter.unusedVariables false
set_option linter.unusedSimpArgs false
set_option linter.unnecessarySimpa false

def tellsT (t : Test) : List Sym := t.sym :: t.list
def tellsC (c : Cond) : List Sym := c.attr.flatMap tellsT ++ c.value.flatMap tellsT
def tellsA (a : Actn) : List Sym := [a.attr.sym, a.value.a.sym, a.value.b.sym, a.other.sym]
def tells (p : Prod) : List Sym := (eachL p.conds).flatMap tellsC ++ p.acts.flatMap tellsA
def nC (D : List Sym) : Nat := (D.filter constB).length

theorem flatMap_take {α β : Type} {f : α → List β} {l : List α} {k : Nat} (hk : k < l.length) : (l.take (k + 1)).flatMap f = (l.take k).flatMap f ++ f l[k] := by
  rw [List.take_add_one, List.getElem?_eq_getElem hk, List.flatMap_append]; simp

/-- What was told so far. -/
def TellIn (b3 b4 : Nat) (fv : PV) (I : Nat → Asn) (S : Asn) (D : List Sym) : Asn := fun μ => ∃ m : Bool, Ow [Pt b4 93 [fv], Pt b3 4 [pB m], if m then I (nC D) else S] μ

@[reducible] def itemsS (T : List Sym) : List (List PV) := (T.filter constB).map fun s => [.agg s.pv]

theorem nC_at {T D R : List Sym} {s : Sym} (h : T = D ++ s :: R) (hs : constB s = true) : ∃ h : nC D < (itemsS T).length, (itemsS T)[nC D] = [.agg s.pv] ∧ nC (D ++ [s]) = nC D + 1 := by
  subst h
  have hl : nC D < (itemsS (D ++ s :: R)).length := by simp [itemsS, nC, List.filter_append, List.filter_cons, hs]
  refine ⟨hl, ?_, by simp [nC, List.filter_append, hs]⟩
  simp only [itemsS, List.getElem_map, nC]
  congr 3
  simp [List.filter_append, List.filter_cons, hs]
theorem nC_no {D : List Sym} {s : Sym} (hs : constB s = false) : nC (D ++ [s]) = nC D := by simp [nC, List.filter_append, hs]

section
variable {b3 b4 : Nat} {fy : Fn} {ya yb : List PV} {I : Nat → Asn} {S : Asn} {T : List Sym}

@[reducible] def tellF (b3 : Nat) (fy : Fn) (ya yb : List PV) : PV := .fn (.func 59) [] [pP b3 0, .fptr [.fn fy ya yb] 0]

variable (hstep : ∀ (k : Nat) (h : k < (itemsS T).length) (μ : Mem), I k μ → CallVP Try.prog (.fn fy ya yb) (itemsS T)[k] μ fun v μ' => (v = pB true ∧ Ow [I (k + 1)] μ') ∨ (v = pB false ∧ Ow [S] μ'))

include hstep in
theorem cTell {D : List Sym} {μ : Mem} (s : Sym) (hT : D ++ [s] <+: T) (hI : TellIn b3 b4 (tellF b3 fy ya yb) I S D μ) {K : Mem → Prop} (hk : ∀ μ', TellIn b3 b4 (tellF b3 fy ya yb) I S (D ++ [s]) μ' → K μ') :
    ∃ (x : Fn) (xa xb : List PV), rdM μ b4 0 1 = some [.fn x xa xb] ∧ CallVP Try.prog (.fn x xa xb) [.agg [pI s.k, pS s.t, pI s.n]] μ fun v μ' => v = .tup [] ∧ K μ' := by
  obtain ⟨m, hO⟩ := hI
  refine ⟨_, _, _, hO.rd 0 rfl (by simp), ?_⟩
  show CallP _ _ _ _ _
  refine G_shape_Consts_1_1.c ⟨m, hO.rd 1 rfl (by simp), ?_⟩
  cases m with
  | false => exact CIf.f rfl ⟨rfl, hk _ ⟨false, hO⟩⟩
  | true =>
    refine CIf.t rfl ((cConst s).call ⟨_, rfl, CIf.mk (fun hc => ?_) (fun hc => ⟨rfl, hk _ ⟨true, by rw [nC_no hc]; exact hO⟩⟩)⟩)
    obtain ⟨R, hR⟩ := hT
    obtain ⟨h1, h2, h3⟩ := nC_at (T := T) (D := D) (R := R) (s := s) (by rw [← hR]; simp) hc
    refine ⟨_, _, _, rfl, ?_⟩
    have hst := hstep (nC D) h1
    rw [h2] at hst
    refine Ow.callV (Ow.at 2 rfl hO) (fun μ1 h => hst μ1 h) fun v μ' hO' => ?_
    rcases hO'.split2 with ⟨rfl, h⟩ | ⟨rfl, h⟩
    · refine ⟨true, rfl, Ow.st 2 h rfl (by simp) fun μ2 h2 => ⟨rfl, hk _ ⟨true, ?_⟩⟩⟩
      rw [h3]; exact Ow.back (L := [Pt b4 93 [tellF b3 fy ya yb], Pt b3 4 [pB true], S]) 2 (by simp) h2
    · refine ⟨false, rfl, Ow.st 2 h rfl (by simp) fun μ2 h2 => ⟨rfl, hk _ ⟨false, ?_⟩⟩⟩
      exact Ow.back (L := [Pt b4 93 [tellF b3 fy ya yb], Pt b3 4 [pB false], S]) 2 (by simp) h2

include hstep in
theorem cTellC {D : List Sym} {μ : Mem} (c : Cond) (x y : Int) (hl : c.attr.length ≤ 1000 ∧ c.value.length ≤ 1000 ∧ (∀ t ∈ c.attr, t.list.length ≤ 1000) ∧ ∀ t ∈ c.value, t.list.length ≤ 1000) (hT : D ++ tellsC c <+: T) (hI : TellIn b3 b4 (tellF b3 fy ya yb) I S D μ) {K : PV → Mem → Prop}
    (hk : ∀ m μ', Ow [Pt b4 93 [tellF b3 fy ya yb], Pt b3 4 [pB m], if m then I (nC (D ++ tellsC c)) else S] μ' → K (pB m) μ') : CallP Try.prog 61 [pI x, pI y, .agg c.pv, pP b4 0, pP b3 0] μ K := by
  rw [Cond.pv_eq]
  refine G_shape_Consts_1_2.c ?_
  have pre : ∀ {X Y Z : List Sym}, D ++ X <+: T → Y ++ Z = X → D ++ Y <+: T := fun {X Y Z} h e => by
    refine List.IsPrefix.trans ?_ h
    rw [← e, ← List.append_assoc]; exact List.prefix_append _ _
  refine LoopI.each (n := 2) (by omega) (fun k u => TellIn b3 b4 (tellF b3 fy ya yb) I S (D ++ (([c.attr, c.value].take k).flatMap fun l => l.flatMap tellsT)) u) (by simpa using hI) ?_ ?_
  · intro k u next hk2 hIk hnext
    obtain ⟨l, hlk⟩ : ∃ l, [c.attr, c.value][k]? = some l := ⟨_, List.getElem?_eq_getElem (by simpa using hk2)⟩
    have hlb : l.length ≤ 1000 ∧ ∀ t ∈ l, t.list.length ≤ 1000 := by
      have : l = c.attr ∨ l = c.value := by
        have := List.mem_of_getElem? hlk; simpa using this
      rcases this with rfl | rfl
      · exact ⟨hl.1, hl.2.2.1⟩
      · exact ⟨hl.2.1, hl.2.2.2⟩
    have htk : ([c.attr, c.value].take (k + 1)).flatMap (fun l => l.flatMap tellsT) = ([c.attr, c.value].take k).flatMap (fun l => l.flatMap tellsT) ++ l.flatMap tellsT := by
      have hk3 : k < [c.attr, c.value].length := by simpa using hk2
      rw [flatMap_take (f := fun l : List Test => l.flatMap tellsT) hk3]
      rw [List.getElem?_eq_getElem hk3] at hlk
      rw [Option.some.inj hlk]
    have hall : ∃ Z, ([c.attr, c.value].take (k + 1)).flatMap (fun l => l.flatMap tellsT) ++ Z = tellsC c := ⟨([c.attr, c.value].drop (k + 1)).flatMap fun l => l.flatMap tellsT, by rw [← List.flatMap_append, List.take_append_drop]; simp [tellsC]⟩
    obtain ⟨Z, hZ⟩ := hall
    refine CIf.t (by simp; omega) ⟨by omega, by omega, .sh, l.map Test.pv, ?_, ?_⟩
    · have : k = 0 ∨ k = 1 := by omega
      rcases this with rfl | rfl
      · simp at hlk; subst hlk; show _ = _; kernel_rfl
      · simp at hlk; subst hlk; show _ = _; kernel_rfl
    · rw [List.length_map]
      generalize hP : ([c.attr, c.value].take k).flatMap (fun l => l.flatMap tellsT) = P at hIk htk
      refine LoopI.each (n := l.length) (by omega) (fun i u => TellIn b3 b4 (tellF b3 fy ya yb) I S (D ++ (P ++ (l.take i).flatMap tellsT)) u) (by simpa using hIk) ?_ ?_
      · intro i u1 next1 hi hIi hnext1
        have hti := (hlb.2 _ (List.getElem_mem hi))
        have hft : (l.take (i + 1)).flatMap tellsT = (l.take i).flatMap tellsT ++ tellsT l[i] := flatMap_take hi
        have hZ2 : ∃ Z, P ++ (l.take (i + 1)).flatMap tellsT ++ Z = tellsC c := ⟨(l.drop (i + 1)).flatMap tellsT ++ Z, by
          rw [← hZ, htk, List.append_assoc, ← List.append_assoc ((l.take (i + 1)).flatMap tellsT), ← List.flatMap_append, List.take_append_drop, List.append_assoc]⟩
        obtain ⟨Z2, hZ2⟩ := hZ2
        rw [hft] at hZ2
        refine CIf.t (by simpa using hi) ⟨by omega, _, atRow hi, _, _, _, _, _, _, _, rfl, ?_⟩
        refine cTell hstep l[i].sym (by rw [List.append_assoc]; exact pre hT (Z := l[i].list ++ Z2) (by rw [← hZ2]; simp [tellsT])) hIi fun μ1 h1 => ?_
        rw [List.length_map]
        refine LoopI.each (n := l[i].list.length) (by omega) (fun q u => TellIn b3 b4 (tellF b3 fy ya yb) I S (D ++ (P ++ ((l.take i).flatMap tellsT ++ l[i].sym :: l[i].list.take q))) u) (by simpa using h1) ?_ ?_
        · intro q u2 next2 hq hIq hnext2
          refine CIf.t (by simpa using hq) ⟨by omega, _, atRow hq, _, _, _, rfl, ?_⟩
          have he : D ++ (P ++ ((l.take i).flatMap tellsT ++ l[i].sym :: l[i].list.take q)) ++ [l[i].list[q]] = D ++ (P ++ ((l.take i).flatMap tellsT ++ l[i].sym :: l[i].list.take (q + 1))) := by
            rw [List.take_add_one, List.getElem?_eq_getElem hq]; simp
          refine cTell hstep l[i].list[q] ?_ hIq fun μ2 h2 => hnext2 _ (by rw [← he]; exact h2)
          rw [he]
          refine pre hT (Z := l[i].list.drop (q + 1) ++ Z2) ?_
          rw [← hZ2]
          simp only [tellsT, List.append_assoc, List.cons_append]
          rw [← List.append_assoc (l[i].list.take (q + 1)), List.take_append_drop]
        · intro u2 next2 hIq
          refine CIf.f (by simp) (hnext1 _ ?_)
          rw [hft]
          rw [List.take_length] at hIq
          exact hIq
      · intro u1 next1 hIi
        refine CIf.f (by simp) (hnext _ ?_)
        rw [htk]
        rw [List.take_length] at hIi
        exact hIi
  · intro u next hIk
    obtain ⟨m, hO⟩ := hIk
    refine CIf.f (by simp) ⟨m, hO.rd 1 rfl (by simp), hk m u ?_⟩
    have : ([c.attr, c.value].take 2).flatMap (fun l => l.flatMap tellsT) = tellsC c := by simp [tellsC]
    rw [this] at hO
    exact hO

end

@[reducible] def constsF (p : Prod) : PV := .fn (.func 58) [] [.fptr p.pv 0]
theorem cConsts (f g : Fl) (p : Prod) : Pure Try.prog 34 [.agg [pS p.name, .list 7 f (p.conds.map Cond.pv), .list 19 g (p.acts.map Actn.pv)]] (constsF p) := PureK.of (G_shape_Consts.c rfl)

theorem eachL_mem_len {l : List Cond} (h : lightL l) {c : Cond} (hc : c ∈ eachL l) : c.attr.length ≤ 1000 ∧ c.value.length ≤ 1000 ∧ (∀ t ∈ c.attr, t.list.length ≤ 1000) ∧ ∀ t ∈ c.value, t.list.length ≤ 1000 := by
  obtain ⟨x, hx, rfl⟩ := List.mem_map.1 hc
  obtain ⟨_, h1, h2, h3, h4, _⟩ := (lightC_eq _).1 (lightL_pre l 0 0 x h hx)
  exact ⟨by omega, by omega, fun t ht => by have := (h3 t ht).1; omega, fun t ht => by have := (h4 t ht).1; omega⟩

theorem seqConsts (p : Prod) (hl : lightL p.conds) (hs : sizeL p.conds ≤ 1000) (ha : p.acts.length ≤ 1000) : SeqO Try.prog (constsF p) (itemsS (tells p)) (fun _ => True) (fun _ => True) := by
  refine SeqO.mk fun fy ya yb I S C μ hy hO h0 hstep => ?_
  show CallP _ _ [.fn fy ya yb, .fptr p.pv 0] _ _
  have hO := h0 _ hO
  refine G_shape_Consts_1.c fun b3 hb3 => ?_
  refine (hO.new 4 [pB false] hb3).st 0 rfl (by simp) fun u1 hO => fun b4 hb4 => ?_
  refine (hO.new 93 [.raw .nilFunc] hb4).st 0 rfl (by simp) fun u2 hO => ⟨_, _, rfl, ?_⟩
  have hI0 : TellIn b3 b4 (tellF b3 fy ya yb) I S [] u2 := ⟨true, hO⟩
  have hwl : ∀ k, k < sizeL p.conds → k < (eachL p.conds).length := fun k hk => by rw [eachL_len]; exact hk
  refine CallP.mono (cWalk (.func 61) [] [pP b4 0, pP b3 0] trivial (fun k => TellIn b3 b4 (tellF b3 fy ya yb) I S (((eachL p.conds).take k).flatMap tellsC)) (fun u => Ow [Pt b4 93 [tellF b3 fy ya yb], Pt b3 4 [pB false], S] u) _ .sh p.conds 0 0 0 _ (Nat.le_refl _) (by omega) (by omega) hI0 fun k x μ' hx hI => ?_) ?_
  · have hk : k < (preL p.conds 0 0).length := lt_of_get hx
    have hk' : k < (eachL p.conds).length := by simpa [eachL] using hk
    have hxe : (eachL p.conds)[k] = x.2.2 := by
      simp only [eachL, List.getElem_map]
      rw [List.getElem?_eq_getElem hk] at hx
      rw [Option.some.inj hx]
    show CallP _ _ _ _ _
    have hft := flatMap_take (f := tellsC) hk'
    rw [hxe] at hft
    simp only [Nat.zero_add] at hI ⊢
    refine cTellC hstep x.2.2 _ _ (eachL_mem_len hl (by rw [← hxe]; exact List.getElem_mem hk')) ?_ hI fun m μ'' hO => ?_
    · rw [← hft]
      unfold tells
      refine List.IsPrefix.trans ?_ (List.prefix_append _ _)
      refine ⟨((eachL p.conds).drop (k + 1)).flatMap tellsC, ?_⟩
      rw [← List.flatMap_append, List.take_append_drop]
    · rw [← hft] at hO
      cases m with
      | true => exact .inl ⟨rfl, true, hO⟩
      | false => exact .inr ⟨rfl, hO⟩
  · intro v u3 h
    have hI1 : ∃ (a : Int) (q : Bool), v = .tup [pI a, pB q] ∧ TellIn b3 b4 (tellF b3 fy ya yb) I S ((eachL p.conds).flatMap tellsC) u3 := by
      rcases h with ⟨rfl, h⟩ | ⟨x, rfl, h⟩
      · refine ⟨_, _, rfl, ?_⟩
        rw [Nat.zero_add, ← eachL_len, List.take_length] at h
        exact h
      · exact ⟨_, _, rfl, false, h⟩
    obtain ⟨a, q, rfl, hI1⟩ := hI1
    refine ⟨_, _, rfl, _, _, rfl, ?_⟩
    rw [List.length_map]
    have fin : ∀ {D : List Sym} {u : Mem} {m : Bool}, Ow [Pt b4 93 [tellF b3 fy ya yb], Pt b3 4 [pB m], if m then I (nC D) else S] u → (m = true → D = tells p) → Ow [I (itemsS (tells p)).length] u ∨ Ow [S] u := fun {D u m} h hD => by
      cases m with
      | true =>
        have := h.drop.drop
        rw [hD rfl] at this
        exact .inl (by simpa [itemsS, nC] using this)
      | false => exact .inr h.drop.drop
    refine LoopI.each (n := p.acts.length) (by omega) (fun k u => TellIn b3 b4 (tellF b3 fy ya yb) I S ((eachL p.conds).flatMap tellsC ++ (p.acts.take k).flatMap tellsA) u) (by simpa using hI1) ?_ ?_
    · intro k u next hk hI hnext
      have hft := flatMap_take (f := tellsA) hk
      have hpre : ∀ X Y, tellsA p.acts[k] = X ++ Y → (eachL p.conds).flatMap tellsC ++ (p.acts.take k).flatMap tellsA ++ X <+: tells p := fun X Y e => by
        unfold tells
        refine ⟨Y ++ (p.acts.drop (k + 1)).flatMap tellsA, ?_⟩
        have h2 : p.acts.flatMap tellsA = (p.acts.take k).flatMap tellsA ++ (X ++ Y) ++ (p.acts.drop (k + 1)).flatMap tellsA := by
          rw [← e, ← hft, ← List.flatMap_append, List.take_append_drop]
        rw [h2]; simp
      refine CIf.t (by simpa using hk) ⟨by omega, _, atRow hk, _, _, _, _, _, _, _, _, _, _, _, _, _, _, _, _, _, _, _, rfl, ?_⟩
      refine cTell hstep p.acts[k].attr.sym (hpre [_] _ rfl) hI fun μ1 h1 => ?_
      refine cTell hstep p.acts[k].value.a.sym (by have := hpre [_, _] _ rfl; simpa using this) h1 fun μ2 h2 => ?_
      refine cTell hstep p.acts[k].value.b.sym (by have := hpre [_, _, _] _ rfl; simpa using this) h2 fun μ3 h3 => ?_
      refine cTell hstep p.acts[k].other.sym (by have := hpre [_, _, _, _] [] rfl; simpa using this) h3 fun μ4 h4 => ?_
      obtain ⟨m, hO⟩ := h4
      refine ⟨m, hO.rd 1 rfl (by simp), CIf.mk (fun hm => ?_) (fun hm => hnext _ ⟨m, ?_⟩)⟩
      · exact fin hO (fun e => by rw [e] at hm; cases hm)
      · rw [hft]
        have e : (eachL p.conds).flatMap tellsC ++ ((p.acts.take k).flatMap tellsA ++ tellsA p.acts[k]) = (eachL p.conds).flatMap tellsC ++ (p.acts.take k).flatMap tellsA ++ [p.acts[k].attr.sym] ++ [p.acts[k].value.a.sym] ++ [p.acts[k].value.b.sym] ++ [p.acts[k].other.sym] := by simp [tellsA]
        rw [e]; exact hO
    · intro u next hI
      refine CIf.f (by simp) ?_
      obtain ⟨m, hO⟩ := hI
      rw [List.take_length] at hO
      exact fin hO fun _ => rfl

end Go.Proofs.Ytfjemjnbemdkgaa
