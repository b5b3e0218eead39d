import Derived.Test.YtdiimonfmdbclaaStAE
import Derived.Test.YtdiimonfmdbclaaStAM
import Derived.Test.YtdiimonfmdbclaaKpB
import Derived.Test.YtdiimonfmdbclaaCh9
/-
  Elements by themselves: plain; and how a net lies in memory.
-/
namespace Go.Proofs.Ytdiimonfmdbclaa
open Go.Eng Go.RowKit
set_option linter.unusedVariables false
set_option linter.unusedSimpArgs false
set_option linter.unnecessarySimpa false

def stillL (l : List Test) : List Test := l.filter fun t => strEq t.var ⟨#[]⟩
def bareC (c : Cond) : Cond := .mk 1 c.goal ⟨#[]⟩ (stillL c.attr) (stillL c.value) c.acc []
def idX (c : Cond) : Cond := .mk c.kind c.goal ⟨#[120]⟩ c.attr c.value c.acc c.conds
def meetsC (c : Cond) (e : Elem) : Bool := (condS (idX c) e []).isSome

theorem stillL_len (l : List Test) : (stillL l).length ≤ l.length := List.length_filter_le _ _
theorem bare_light {c : Cond} (h : lightC c) : lightC (bareC c) := by
  obtain ⟨_, h1, h2, h3, h4, _⟩ := (lightC_eq c).1 h
  have a := stillL_len c.attr
  have b := stillL_len c.value
  refine (lightC_eq _).2 ⟨by show (⟨#[]⟩ : ByteArray).size ≤ 100; decide, Nat.le_trans a h1, Nat.le_trans b h2, fun t ht => h3 t (List.mem_filter.1 ht).1, fun t ht => h4 t (List.mem_filter.1 ht).1, trivial⟩
/-- Bare conditions, and few tests. -/
structure BareC (c : Cond) : Prop where
  kind : c.kind = 1
  id : c.id = ⟨#[]⟩
  conds : c.conds = []
  light : lightC c
theorem bare_bare {c : Cond} (h : lightC c) : BareC (bareC c) := ⟨rfl, rfl, rfl, bare_light h⟩
theorem BareC.eq {c d : Cond} (hc : BareC c) (hd : BareC d) (h1 : c.goal = d.goal) (h2 : c.acc = d.acc) (h3 : c.attr = d.attr) (h4 : c.value = d.value) : c = d :=
  condExt (hc.kind.trans hd.kind.symm) h1 (hc.id.trans hd.id.symm) h3 h4 h2 (hc.conds.trans hd.conds.symm)

/-- A memory: what it asks, who uses it, where what it has lies, what it has. -/
structure AMemo where
  c : Cond
  users : Int
  b : Nat
  l : List Elem

def AMemo.memo (m : AMemo) : Memo := ⟨m.c, m.users, some ⟨m.b, 0, none⟩⟩
abbrev AMs := List (Int × AMemo)
def pgE (e : Elem) : AE.El := (e.tag, e)
def pgM (x : Int × AMemo) : AM.El := (x.1, x.2.memo)
def setM (x : Int × AMemo) : Asn := AT.At x.2.b x.2.l
def tagE (e : Elem) : Int := e.tag
def numM (x : Int × AMemo) : Int := x.1

def NetAt (n : Nat) (es : List Elem) (ms : AMs) : Asn := fun μ => ∃ me mm, Ow (Pt n 79 [pP me 0, pP mm 0] :: AE.MAt me (es.map pgE) :: AM.MAt mm (ms.map pgM) :: ms.map setM) μ
theorem NetAt.open_ {n : Nat} {es : List Elem} {ms : AMs} {L : List Asn} {μ : Mem} (h : Ow (NetAt n es ms :: L) μ) : ∃ me mm, Ow (Pt n 79 [pP me 0, pP mm 0] :: AE.MAt me (es.map pgE) :: AM.MAt mm (ms.map pgM) :: (ms.map setM ++ L)) μ := by
  obtain ⟨me, h⟩ := Ow.ex h
  obtain ⟨mm, h⟩ := Ow.ex h
  exact ⟨me, mm, h.nest⟩
theorem NetAt.shut {n me mm : Nat} {es : List Elem} {ms : AMs} {L : List Asn} {μ : Mem} (h : Ow (Pt n 79 [pP me 0, pP mm 0] :: AE.MAt me (es.map pgE) :: AM.MAt mm (ms.map pgM) :: (ms.map setM ++ L)) μ) : Ow (NetAt n es ms :: L) μ :=
  (Ow.pack (L1 := Pt n 79 [pP me 0, pP mm 0] :: AE.MAt me (es.map pgE) :: AM.MAt mm (ms.map pgM) :: ms.map setM) h).imp fun _ hν => ⟨me, mm, hν⟩

/-- What holds of a net's elements and memories. -/
structure AInv (es : List Elem) (ms : AMs) : Prop where
  ues : UpK cmpI tagE es
  ums : UpK cmpI numM ms
  has : ∀ x ∈ ms, x.2.l = es.filter (meetsC x.2.c)
  bare : ∀ x ∈ ms, BareC x.2.c
  num : ∀ x ∈ ms, 0 ≤ x.1 ∧ x.1 < 1000000
  users : ∀ x ∈ ms, 1 ≤ x.2.users ∧ x.2.users < 1000000
  inj : ∀ x ∈ ms, ∀ y ∈ ms, x.2.c = y.2.c → x = y
  le : es.length < 1000000
  lm : ms.length < 1000000

theorem AInv.ue {es : List Elem} {ms : AMs} (h : AInv es ms) : UpK AE.ck AE.key (es.map pgE) := UpK.map h.ues
theorem AInv.um {es : List Elem} {ms : AMs} (h : AInv es ms) : UpK AM.ck AM.key (ms.map pgM) := UpK.map h.ums
theorem AInv.ul {es : List Elem} {ms : AMs} (h : AInv es ms) {x : Int × AMemo} (hx : x ∈ ms) : UpK AT.ck AT.key x.2.l ∧ x.2.l.length < 1000000 := by
  rw [h.has x hx]
  exact ⟨UpK.filter h.ues _, Nat.lt_of_le_of_lt (List.length_filter_le _ _) h.le⟩

theorem AInv.nil : AInv [] [] := ⟨List.Pairwise.nil, List.Pairwise.nil, by simp, by simp, by simp, by simp, by simp, by simp, by simp⟩

/-- The least number that is not there. -/
def least (ms : AMs) : Int := ms.foldl (fun a x => if x.1 = a then a + 1 else a) 0

theorem least_take {ms : AMs} {k : Nat} (hk : k < ms.length) : least (ms.take (k + 1)) = if ms[k].1 = least (ms.take k) then least (ms.take k) + 1 else least (ms.take k) := by
  unfold least
  rw [List.take_add_one, List.getElem?_eq_getElem hk, List.foldl_append]; rfl

theorem least_spec : ∀ (ms : AMs), UpK cmpI numM ms → (∀ x ∈ ms, 0 ≤ x.1) → 0 ≤ least ms ∧ least ms ≤ ms.length ∧ (∀ j : Int, 0 ≤ j → j < least ms → ∃ x ∈ ms, x.1 = j) ∧ ∀ x ∈ ms, x.1 ≠ least ms := by
  intro ms hu h0
  have key : ∀ k, k ≤ ms.length → 0 ≤ least (ms.take k) ∧ least (ms.take k) ≤ k ∧ (∀ j : Int, 0 ≤ j → j < least (ms.take k) → ∃ x ∈ ms.take k, x.1 = j) ∧ (∀ x ∈ ms.take k, x.1 ≠ least (ms.take k)) := by
    intro k
    induction k with
    | zero =>
      intro _
      refine ⟨by simp [least], by simp [least], fun j h1 h2 => ?_, by simp⟩
      have : least (ms.take 0) = 0 := rfl
      omega
    | succ k ih =>
      intro hk
      obtain ⟨i1, i2, i3, i4⟩ := ih (by omega)
      have hk' : k < ms.length := by omega
      have hmem : ∀ x, x ∈ ms.take (k + 1) ↔ x ∈ ms.take k ∨ x = ms[k] := fun x => by
        rw [List.take_add_one, List.getElem?_eq_getElem hk', List.mem_append]; simp
      have hlt : ∀ x ∈ ms.take k, x.1 < ms[k].1 := fun x hx => by
        obtain ⟨i, hi, rfl⟩ := List.mem_iff_getElem.1 hx
        rw [List.getElem_take]
        simp only [List.length_take] at hi
        have := List.pairwise_iff_getElem.1 hu i k (by omega) hk' (by omega)
        exact cmpI_lt.1 this
      rw [least_take hk']
      split
      · rename_i e
        refine ⟨by omega, by omega, fun j h1 h2 => ?_, fun x hx => ?_⟩
        · by_cases hj : j < least (ms.take k)
          · obtain ⟨x, hx, ex⟩ := i3 j h1 hj
            exact ⟨x, (hmem x).2 (.inl hx), ex⟩
          · exact ⟨ms[k], (hmem _).2 (.inr rfl), by omega⟩
        · rcases (hmem x).1 hx with h | rfl
          · have := hlt x h; omega
          · omega
      · rename_i e
        refine ⟨i1, by omega, fun j h1 h2 => ?_, fun x hx => ?_⟩
        · obtain ⟨x, hx, ex⟩ := i3 j h1 h2
          exact ⟨x, (hmem x).2 (.inl hx), ex⟩
        · rcases (hmem x).1 hx with h | rfl
          · exact i4 x h
          · exact e
  have := key ms.length (Nat.le_refl _)
  rw [List.take_length] at this
  exact this

theorem sets_upd {es : List Elem} {ms : AMs} (hI : AInv es ms) {x x' : Int × AMemo} (hx : x ∈ ms) (hk : x'.1 = x.1) (hs : setM x' = setM x) : (insK cmpI numM x' ms).map setM = ms.map setM := by
  obtain ⟨A, B, e, _, h⟩ := hI.ums.at_ cmpI_ok hx
  have h2 := h x' hk
  rw [h2]
  conv => rhs; rw [e]
  simp [hs]

theorem AInv.del {es : List Elem} {ms : AMs} (h : AInv es ms) (k : Int) : AInv es (delK cmpI numM k ms) := by
  have hm : ∀ x, x ∈ delK cmpI numM k ms → x ∈ ms := fun x hx => (List.mem_filter.1 hx).1
  exact ⟨h.ues, h.ums.del k, fun x hx => h.has x (hm x hx), fun x hx => h.bare x (hm x hx), fun x hx => h.num x (hm x hx), fun x hx => h.users x (hm x hx), fun x hx y hy => h.inj x (hm x hx) y (hm y hy), h.le, Nat.lt_of_le_of_lt delK_len h.lm⟩

theorem AInv.upd {es : List Elem} {ms : AMs} (h : AInv es ms) {x x' : Int × AMemo} (hx : x ∈ ms) (hk : x'.1 = x.1) (hc : x'.2.c = x.2.c) (hl : x'.2.l = x.2.l) (hu : 1 ≤ x'.2.users ∧ x'.2.users < 1000000) : AInv es (insK cmpI numM x' ms) := by
  obtain ⟨A, B, e, _, h2⟩ := h.ums.at_ cmpI_ok hx
  have hi := h2 x' hk
  have hm : ∀ y, y ∈ insK cmpI numM x' ms → y = x' ∨ y ∈ ms := fun y hy => ((mem_insK cmpI_ok).1 hy).imp id fun h => h.1
  have hlen : (insK cmpI numM x' ms).length = ms.length := by rw [hi]; conv => rhs; rw [e]
                                                              simp
  refine ⟨h.ues, h.ums.ins cmpI_ok x', fun y hy => ?_, fun y hy => ?_, fun y hy => ?_, fun y hy => ?_, fun y hy z hz e' => ?_, h.le, by rw [hlen]; exact h.lm⟩
  · rcases hm y hy with rfl | hy
    · rw [hl, hc]; exact h.has x hx
    · exact h.has y hy
  · rcases hm y hy with rfl | hy
    · rw [hc]; exact h.bare x hx
    · exact h.bare y hy
  · rcases hm y hy with rfl | hy
    · rw [hk]; exact h.num x hx
    · exact h.num y hy
  · rcases hm y hy with rfl | hy
    · exact hu
    · exact h.users y hy
  · rcases (mem_insK cmpI_ok).1 hy with ey | ⟨hy1, hy2⟩ <;> rcases (mem_insK cmpI_ok).1 hz with ez | ⟨hz1, hz2⟩
    · rw [ey, ez]
    · rw [ey, hc] at e'
      have := h.inj x hx z hz1 e'
      exact absurd (by rw [← this]; exact hk.symm) hz2
    · rw [ez, hc] at e'
      have := h.inj y hy1 x hx e'
      exact absurd (by rw [this]; exact hk.symm) hy2
    · exact h.inj y hy1 z hz1 e'

theorem AInv.new {es : List Elem} {ms : AMs} (h : AInv es ms) {c : Cond} (hc : BareC c) (hn : ∀ x ∈ ms, x.2.c ≠ c) (b : Nat) (hlm : ms.length + 1 < 1000000) : getK cmpI numM (least ms) ms = none ∧ AInv es (insK cmpI numM (least ms, ⟨c, 1, b, es.filter (meetsC c)⟩) ms) := by
  obtain ⟨l0, l1, _, l3⟩ := least_spec ms h.ums fun x hx => (h.num x hx).1
  have hm : ∀ y, y ∈ insK cmpI numM (least ms, ⟨c, 1, b, es.filter (meetsC c)⟩) ms → y = (least ms, ⟨c, 1, b, es.filter (meetsC c)⟩) ∨ y ∈ ms := fun y hy => ((mem_insK cmpI_ok).1 hy).imp id fun h => h.1
  have hlen := insK_len (ck := cmpI) (key := numM) (x := (least ms, ⟨c, 1, b, es.filter (meetsC c)⟩)) (L := ms)
  refine ⟨(getK_none cmpI_ok).2 fun x hx => l3 x hx, h.ues, h.ums.ins cmpI_ok _, fun y hy => ?_, fun y hy => ?_, fun y hy => ?_, fun y hy => ?_, fun y hy z hz e' => ?_, h.le, by omega⟩
  · rcases hm y hy with rfl | hy
    · rfl
    · exact h.has y hy
  · rcases hm y hy with rfl | hy
    · exact hc
    · exact h.bare y hy
  · rcases hm y hy with rfl | hy
    · exact ⟨l0, by show least ms < 1000000; omega⟩
    · exact h.num y hy
  · rcases hm y hy with rfl | hy
    · exact ⟨by show (1 : Int) ≤ 1; omega, by show (1 : Int) < 1000000; omega⟩
    · exact h.users y hy
  · rcases hm y hy with rfl | hy <;> rcases hm z hz with rfl | hz
    · rfl
    · exact absurd e'.symm (hn z hz)
    · exact absurd e' (hn y hy)
    · exact h.inj y hy z hz e'

/-! ### elements that come and go -/
def putE (e : Elem) (x : Int × AMemo) : Int × AMemo := (x.1, { x.2 with l := if meetsC x.2.c e then putK cmpI tagE e x.2.l else x.2.l })
def dropE (t : Int) (x : Int × AMemo) : Int × AMemo := (x.1, { x.2 with l := delK cmpI tagE t x.2.l })
def hitsM (e : Elem) (ms : AMs) : List Int := (ms.filter fun x => meetsC x.2.c e).map (·.1)

theorem AInv.putE {es : List Elem} {ms : AMs} (h : AInv es ms) {e : Elem} (hn : getK cmpI tagE e.tag es = none) (hle : es.length + 1 < 1000000) : AInv (insK cmpI tagE e es) (ms.map (putE e)) := by
  have hnn := (getK_none cmpI_ok).1 hn
  have hlen := insK_len (ck := cmpI) (key := tagE) (x := e) (L := es)
  have hm : ∀ y ∈ ms.map (Go.Proofs.Ytdiimonfmdbclaa.putE e), ∃ x ∈ ms, y = Go.Proofs.Ytdiimonfmdbclaa.putE e x := fun y hy => by obtain ⟨x, hx, rfl⟩ := List.mem_map.1 hy; exact ⟨x, hx, rfl⟩
  refine ⟨h.ues.ins cmpI_ok e, UpK.map (f := Go.Proofs.Ytdiimonfmdbclaa.putE e) h.ums, fun y hy => ?_, fun y hy => ?_, fun y hy => ?_, fun y hy => ?_, fun y hy z hz e' => ?_, by omega, by simpa using h.lm⟩
  · obtain ⟨x, hx, rfl⟩ := hm y hy
    show (if meetsC x.2.c e then putK cmpI tagE e x.2.l else x.2.l) = _
    rw [h.has x hx]
    have hnl : getK cmpI tagE e.tag (es.filter (meetsC x.2.c)) = none := (getK_none cmpI_ok).2 fun y hy => hnn y (List.mem_filter.1 hy).1
    split
    · rename_i hme
      rw [putK]
      have : getK cmpI tagE (tagE e) (es.filter (meetsC x.2.c)) = none := hnl
      rw [this]
      refine UpK.ext cmpI_ok (UpK.ins cmpI_ok (h.ues.filter _) e) ((h.ues.ins cmpI_ok e).filter _) fun y => ?_
      show y ∈ insK cmpI tagE e _ ↔ _
      rw [mem_insK cmpI_ok, List.mem_filter, List.mem_filter, mem_insK cmpI_ok]
      constructor
      · rintro (rfl | ⟨⟨h1, h2⟩, h3⟩)
        · exact ⟨.inl rfl, hme⟩
        · exact ⟨.inr ⟨h1, h3⟩, h2⟩
      · rintro ⟨rfl | ⟨h1, h3⟩, h2⟩
        · exact .inl rfl
        · exact .inr ⟨⟨h1, h2⟩, h3⟩
    · rename_i hme
      refine UpK.ext cmpI_ok (h.ues.filter _) ((h.ues.ins cmpI_ok e).filter _) fun y => ?_
      rw [List.mem_filter, List.mem_filter, mem_insK cmpI_ok]
      constructor
      · rintro ⟨h1, h2⟩
        exact ⟨.inr ⟨h1, hnn y h1⟩, h2⟩
      · rintro ⟨rfl | ⟨h1, h3⟩, h2⟩
        · exact absurd h2 hme
        · exact ⟨h1, h2⟩
  · obtain ⟨x, hx, rfl⟩ := hm y hy; exact h.bare x hx
  · obtain ⟨x, hx, rfl⟩ := hm y hy; exact h.num x hx
  · obtain ⟨x, hx, rfl⟩ := hm y hy; exact h.users x hx
  · obtain ⟨x, hx, rfl⟩ := hm y hy
    obtain ⟨x', hx', rfl⟩ := hm z hz
    rw [h.inj x hx x' hx' e']

theorem AInv.dropE {es : List Elem} {ms : AMs} (h : AInv es ms) (t : Int) : AInv (delK cmpI tagE t es) (ms.map (dropE t)) := by
  have hm : ∀ y ∈ ms.map (Go.Proofs.Ytdiimonfmdbclaa.dropE t), ∃ x ∈ ms, y = Go.Proofs.Ytdiimonfmdbclaa.dropE t x := fun y hy => by obtain ⟨x, hx, rfl⟩ := List.mem_map.1 hy; exact ⟨x, hx, rfl⟩
  refine ⟨h.ues.del t, UpK.map (f := Go.Proofs.Ytdiimonfmdbclaa.dropE t) h.ums, fun y hy => ?_, fun y hy => ?_, fun y hy => ?_, fun y hy => ?_, fun y hy z hz e' => ?_, Nat.lt_of_le_of_lt delK_len h.le, by simpa using h.lm⟩
  · obtain ⟨x, hx, rfl⟩ := hm y hy
    show delK cmpI tagE t x.2.l = _
    rw [h.has x hx]
    unfold delK
    rw [List.filter_filter, List.filter_filter]
    exact List.filter_congr fun y _ => Bool.and_comm _ _
  · obtain ⟨x, hx, rfl⟩ := hm y hy; exact h.bare x hx
  · obtain ⟨x, hx, rfl⟩ := hm y hy; exact h.num x hx
  · obtain ⟨x, hx, rfl⟩ := hm y hy; exact h.users x hx
  · obtain ⟨x, hx, rfl⟩ := hm y hy
    obtain ⟨x', hx', rfl⟩ := hm z hz
    rw [h.inj x hx x' hx' e']

end Go.Proofs.Ytdiimonfmdbclaa
