import Derived.Test.YtdiimonfmdbclaaCh12C
/-
  The laws of chapter 12: the document's example, lists of elements.
-/
namespace Go.Proofs.Ytdiimonfmdbclaa
open Go.Eng Go.RowKit
set_option linter.unusedVariables false
set_option linter.unusedSimpArgs false
set_option linter.unnecessarySimpa false

theorem cW9 (t : ByteArray) : Pure Try.prog 28 [pS t] (.agg [pI 3, pS t, pI 0]) := PureK.of (G_ponderlaw09_W.c rfl)
theorem cN9 (n : Int) : Pure Try.prog 29 [pI n] (.agg [pI 2, pS ⟨#[]⟩, pI n]) := PureK.of (G_ponderlaw09_N.c rfl)

def wC (id : ByteArray) : Cond := .mk 1 false id [⟨1, ⟨#[]⟩, ⟨3, ⟨#[120]⟩, 0⟩, []⟩] [⟨1, ⟨#[]⟩, ⟨2, ⟨#[]⟩, 5⟩, []⟩] false []
theorem wC_light (id : ByteArray) (h : id.size ≤ 100) : lightC (wC id) := by
  refine (lightC_eq _).2 ⟨h, by show 1 ≤ 10; omega, by show 1 ≤ 10; omega, ?_, ?_, trivial⟩
  · intro t ht; simp [wC, Cond.attr] at ht; subst ht; exact ⟨by decide, by decide, by decide⟩
  · intro t ht; simp [wC, Cond.value] at ht; subst ht; exact ⟨by decide, by decide, by decide⟩
theorem wC_bare (a b : ByteArray) : bareC (wC a) = bareC (wC b) := rfl

theorem ins_nil (x : Int × AMemo) : insK cmpI numM x [] = [x] := rfl
theorem ins_same (k : Int) (m m' : AMemo) : insK cmpI numM (k, m') [(k, m)] = [(k, m')] := by simp [insK, ltK, gtK, cmpI, numM]

theorem cWakes12 : Pure Try.prog 9 [] (pB true) := by
  refine PureK.of (G_ponderlaw12_wakes.c (cANew (L := []) trivial fun u n h => ⟨_, rfl, CIf.f rfl ((cW9 _).call ⟨_, _, _, rfl, (cN9 _).call ⟨_, _, _, rfl, ?_⟩⟩)⟩))
  refine cAWant h AInv.nil (by decide) (by simp) (wC ⟨#[97]⟩) (wC_light _ (by decide)) (fun x hx => by cases hx) fun _ u1 b h1 => ⟨_, rfl, ?_⟩
  rw [ins_nil] at h1
  have hI : AInv [] [(least [], ⟨bareC (wC ⟨#[97]⟩), 1, b, [].filter (meetsC (bareC (wC ⟨#[97]⟩)))⟩)] := (AInv.nil.new (bare_bare (wC_light ⟨#[97]⟩ (by decide))) (by simp) b (by decide)).2
  refine cAWant h1 hI (by simp) (by simp) (wC ⟨#[98]⟩) (wC_light _ (by decide)) (fun x hx ec u2 h2 => ⟨_, rfl, ?_⟩) (fun hno => absurd rfl (hno _ (List.mem_singleton.2 rfl)))
  have hx : x = (0, ⟨bareC (wC ⟨#[97]⟩), 1, b, []⟩) := by simpa [least] using hx
  subst hx
  have hI2 : AInv [] (insK cmpI numM (0, ⟨bareC (wC ⟨#[97]⟩), 1 + 1, b, []⟩) [(least [], ⟨bareC (wC ⟨#[97]⟩), 1, b, [].filter (meetsC (bareC (wC ⟨#[97]⟩)))⟩)]) := hI.upd (x := (least [], ⟨bareC (wC ⟨#[97]⟩), 1, b, [].filter (meetsC (bareC (wC ⟨#[97]⟩)))⟩)) (by simp) rfl rfl rfl ⟨by show (1 : Int) ≤ 1 + 1; decide, by show (1 : Int) + 1 < 1000000; decide⟩
  refine CIf.t rfl (CIf.t rfl (cALen h2 ⟨_, rfl, CIf.t ?_ (cAUsers h2 hI2 0 fun u3 h3 => ⟨_, rfl, ?_⟩)⟩))
  · have : insK cmpI numM ((0 : Int), (⟨bareC (wC ⟨#[97]⟩), 1 + 1, b, []⟩ : AMemo)) [(least [], ⟨bareC (wC ⟨#[97]⟩), 1, b, [].filter (meetsC (bareC (wC ⟨#[97]⟩)))⟩)] = [(0, ⟨bareC (wC ⟨#[97]⟩), 1 + 1, b, []⟩)] := ins_same 0 _ _
    show ((((insK cmpI numM ((0 : Int), (⟨bareC (wC ⟨#[97]⟩), 1 + 1, b, []⟩ : AMemo)) [(least [], ⟨bareC (wC ⟨#[97]⟩), 1, b, [].filter (meetsC (bareC (wC ⟨#[97]⟩)))⟩)]).length : Nat) : Int) == 1) = true
    rw [this]; rfl
  · have : insK cmpI numM ((0 : Int), (⟨bareC (wC ⟨#[97]⟩), 1 + 1, b, []⟩ : AMemo)) [(least [], ⟨bareC (wC ⟨#[97]⟩), 1, b, [].filter (meetsC (bareC (wC ⟨#[97]⟩)))⟩)] = [(0, ⟨bareC (wC ⟨#[97]⟩), 1 + 1, b, []⟩)] := ins_same 0 _ _
    show wk (pB ((((getK cmpI numM 0 (insK cmpI numM ((0 : Int), (⟨bareC (wC ⟨#[97]⟩), 1 + 1, b, []⟩ : AMemo)) [(least [], ⟨bareC (wC ⟨#[97]⟩), 1, b, [].filter (meetsC (bareC (wC ⟨#[97]⟩)))⟩)])).map fun x => x.2.users).getD 0) == 2)) = pB true
    rw [this]; rfl

theorem rowsCC (l : List Cond) : l.map Cond.pv = l.map cc := List.map_congr_left fun c _ => Cond.pv_eq c

theorem cSizeCC (f : Fl) (l : List Cond) (most : Nat) (hm : most ≤ 1000) : PureK Try.prog 7 [.list 7 f (l.map cc), pI (most : Nat), pI 0] fun p => ∃ r : Nat, p = pI (r : Nat) ∧ r ≤ most + 1 ∧ (r ≤ most → sizeL l = r) := by
  have := cKSize _ f l most 0 (Nat.le_refl _) hm (by omega)
  rw [rowsCC] at this; exact this
theorem cHeavyCC (f : Fl) (l : List Cond) (hs : sizeL l ≤ 1000000) : PureK Try.prog 8 [.list 7 f (l.map cc)] fun p => ∃ q : Bool, p = pB q ∧ (q = false → lightL l) := by
  have := cHeavyConds _ f l (Nat.le_refl _) hs
  rw [rowsCC] at this; exact this

theorem cListE {fn : Fn} {a b : List PV} {A : Asn} {es : List Elem} (hs : SeqO Try.prog (.fn fn a b) (es.map fun e => [.agg e.pv]) A A) (hl : es.length ≤ 1000000) {L : List Asn} {μ : Mem} (hO : Ow (A :: L) μ) {K : PV → Mem → Prop} (hk : ∀ μ' fl, Ow (A :: L) μ' → K (.list 12 fl (es.map Elem.pv)) μ') : CallP Try.prog 24 [.fn fn a b] μ K := by
  refine G_ponderkeep_List_api_Elem.c fun b3 hb3 => ?_
  have O1 := (hO.new 42 [.list 12 .nil []] hb3).swap
  refine RangeP.own hs O1 (fun k u => ∃ f, Ow (Pt b3 42 [.list 12 f ((es.take k).map Elem.pv)] :: Tip f k 12 :: A :: L) u) (fun _ _ => False) (fun k => UpC.ex fun _ => UpC.own _) (fun _ _ _ _ h => h.elim) (fun μ' h => ⟨.nil, h.swap.tail fun _ h => Ow.nil h (.inl rfl)⟩) ?_ ?_ ?_
  · rintro k hk u R ⟨f, hO⟩ hnone _
    have hk' : k < es.length := by simpa using hk
    rw [List.getElem_map]
    refine ⟨_, _, _, _, _, _, _, _, _, _, _, _, rfl, _, _, hO.rd 0 rfl (by simp), Ow.app hO.swap (by simp; omega) (by simp; omega) (by simp; omega) fun f' u' hO' => ?_⟩
    refine hO'.st 1 rfl (by simp) fun u2 hO2 => hnone _ ⟨f', ?_⟩
    rw [mapTake hk']
    exact Ow.swap hO2
  · rintro u ⟨f, hO⟩
    refine ⟨_, _, hO.rd 0 rfl (by simp), ?_⟩
    rw [List.length_map, List.take_length] at hO ⊢
    exact hk u f hO.drop.drop
  · intro c u h; exact h.elim

end Go.Proofs.Ytdiimonfmdbclaa
