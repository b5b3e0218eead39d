import Derived.Test.YtfjemjnbemdkgaaCh6W
/-
  Which variables are known: the document's way.
-/
namespace Go.Proofs.Ytfjemjnbemdkgaa
open Go.Eng Go.RowKit
set_option linter.unusedVariables false
set_option linter.unusedSimpArgs false
set_option linter.unnecessarySimpa false

theorem LoopI.eachA {α γ : Type} {body : (α → γ → Prop) → α → γ → Prop} {s0 : α} {u : γ} (n : Nat) (I : Nat → α → γ → Prop) (h0 : I 0 s0 u)
    (hin : ∀ (k : Nat) (s : α) (u : γ) (next : α → γ → Prop), k < n → I k s u → (∀ s' u', I (k + 1) s' u' → next s' u') → body next s u) (hout : ∀ (s : α) (u : γ) (next : α → γ → Prop), I n s u → body next s u) : LoopI body s0 u := by
  refine ⟨fun m s w => ∃ k, k ≤ n ∧ m = n - k ∧ I k s w, ⟨n, 0, by omega, rfl, h0⟩, ?_⟩
  rintro m s w ⟨k, hk, rfl, hI⟩
  by_cases h : k < n
  · exact hin k s w _ h hI fun s' u' h' => ⟨n - (k + 1), by omega, k + 1, by omega, rfl, h'⟩
  · have : k = n := by omega
    subst this
    exact hout s w _ hI

theorem hasB_take {K : List ByteArray} {v : ByteArray} {i : Nat} (hi : i < K.length) (h : hasB (K.take i) v = false) (hn : strEq K[i] v = false) : hasB (K.take (i + 1)) v = false := by
  unfold hasB at *
  rw [List.take_add_one, List.any_append, h, List.getElem?_eq_getElem hi]
  simp [hn]

theorem cRHas (fl : Fl) (K : List ByteArray) (v : ByteArray) (hl : K.length ≤ 1000000) : Pure Try.prog 79 [.list 1 fl (rowsS K), pS v] (pB (hasB K v)) := by
  refine PureK.of (G_ponderref06_has.c ?_)
  refine LoopI.each (n := K.length) (by omega) (fun i u => hasB (K.take i) v = false) rfl ?_ ?_
  · intro i u next hi hI hnext
    refine CIf.t (by simpa using hi) ⟨by omega, _, rowsS_at hi, _, rfl, CIf.mk (fun h => ?_) (fun h => hnext _ (hasB_take hi hI h))⟩
    have : hasB K v = true := hasB_iff.2 (by rw [← strEq_iff.1 h]; exact List.getElem_mem hi)
    rw [this]; rfl
  · intro u next hI
    rw [List.take_length] at hI
    rw [hI]
    exact CIf.f (by simp) rfl

@[reducible] def metPV : Option (List ByteArray) → PV
  | none => .tup [.list 1 .sh [], pB false]
  | some K => .tup [.list 1 .sh (rowsS K), pB true]

theorem rowsS_append (K e : List ByteArray) : rowsS (K ++ e) = rowsS K ++ rowsS e := by simp [rowsS]

theorem metT_ref {K : List ByteArray} {t : Test} (h : okT t) : metT K t = (bif strEq t.var ⟨#[]⟩ then some K else bif hasB K t.var then some K else bif t.rel != 1 then none else some (K ++ [t.var])) := by
  unfold metT newK
  cases hv : strEq t.var ⟨#[]⟩ with
  | true => simp
  | false =>
    have h8 : (t.rel == 8) = false := by
      cases h8 : t.rel == 8 with
      | false => rfl
      | true => rw [h (by simpa using h8)] at hv; cases hv
    rw [h8, show (t.rel != 1) = !(t.rel == 1) from rfl]
    cases hasB K t.var <;> cases t.rel == 1 <;> simp

theorem metL_append' {K : List ByteArray} {a b : List Test} : metL K (a ++ b) = (metL K a).bind fun K1 => metL K1 b := metL_append K a b

theorem tipKeep {fl f1 f2 : Fl} {n sz : Nat} {μ μ' : Mem} (h : TipIn fl n sz μ) (hd : ∀ x ∈ tipL fl, ¬ f1.at x) (hk : ∀ b o, μ b = some o → ¬ f1.at b → μ' b = some o ∧ ¬ f2.at b) : TipIn fl n sz μ' ∧ ∀ x ∈ tipL fl, ¬ f2.at x := by
  cases fl with
  | tip b c =>
    have := hk b _ h (hd b (by simp [tipL]))
    exact ⟨this.1, fun x hx => by simp [tipL] at hx; subst hx; exact this.2⟩
  | sh => exact ⟨h, fun x hx => by simp [tipL] at hx⟩
  | nr => exact ⟨h, fun x hx => by simp [tipL] at hx⟩
  | nil => exact ⟨h, fun x hx => by simp [tipL] at hx⟩

theorem cRMet (fl : Fl) (c : Cond) (K : List ByteArray) (hc : okC c) (hl : K.length ≤ 10000) : Pure Try.prog 78 [.agg c.pv, .list 1 fl (rowsS K)] (metPV (metC K c)) := by
  obtain ⟨_, ha, hv, hta, htv, _⟩ := (okC_eq c).1 hc
  rw [Cond.pv_eq]
  refine PureK.of (G_ponderref06_met.c ?_)
  refine appL.go1 (by trivial) (by simp; omega) (by simp; omega) fun f1 μ1 t1 => ?_
  simp only [List.nil_append, List.length_nil, Nat.zero_add, rowsS_len] at t1 ⊢
  have go : ∀ (K0 : List ByteArray) (f : Fl) (u : Mem), K0.length ≤ 10001 → TipIn f K0.length 1 u → metC K c = (metL K0 c.attr).bind (fun K1 => metL K1 c.value) →
      appL true 6 80 .nil [] (c.attr.map Test.pv) u fun f26 u_4 => appL false 6 80 f26 (c.attr.map Test.pv) (c.value.map Test.pv) u_4 fun f29 u_5 =>
      LoopI (α := (Fl × List (List PV)) × Int) (fun next s_1 u_6 =>
      CIf (decide ((s_1.2 : Int) < ((List.length (c.attr.map Test.pv ++ c.value.map Test.pv) : Nat) : Int)))
      ((0 : Int) ≤ s_1.2 ∧ ∃ (r38 : List PV), (c.attr.map Test.pv ++ c.value.map Test.pv)[Int.toNat s_1.2]? = some r38 ∧
        ∃ (x40 : ByteArray), rowM r38 1 1 = some [(pS x40)] ∧
        CIf (strEq x40 ⟨#[]⟩)
        (next ((s_1.1.1, s_1.1.2), (IntKind.wrap .i64 (s_1.2 + (1)))) u_6)
        ((0 : Int) ≤ s_1.2 ∧ ∃ (r46 : List PV), (c.attr.map Test.pv ++ c.value.map Test.pv)[Int.toNat s_1.2]? = some r46 ∧
          ∃ (x48 : ByteArray), rowM r46 1 1 = some [(pS x48)] ∧
          CallP Try.prog 79 [(.list 1 s_1.1.1 s_1.1.2), (pS x48)] u_6 fun v_1 u_7 =>
          ∃ (x49 : Bool), v_1 = (pB x49) ∧
          CIf x49
          (next ((s_1.1.1, s_1.1.2), (IntKind.wrap .i64 (s_1.2 + (1)))) u_7)
          ((0 : Int) ≤ s_1.2 ∧ ∃ (r53 : List PV), (c.attr.map Test.pv ++ c.value.map Test.pv)[Int.toNat s_1.2]? = some r53 ∧
            ∃ (x55 : Int), rowM r53 0 1 = some [(pI x55)] ∧
            CIf ((x55 : Int) != (1))
            (wk (.tup [(.list 1 .nil []), (pB false)]) = metPV (metC K c))
            ((0 : Int) ≤ s_1.2 ∧ ∃ (r60 : List PV), (c.attr.map Test.pv ++ c.value.map Test.pv)[Int.toNat s_1.2]? = some r60 ∧
              ∃ (x62 : ByteArray), rowM r60 1 1 = some [(pS x62)] ∧
              appL false 1 16 s_1.1.1 s_1.1.2 [[(pS x62)]] u_7 fun f64 u_8 =>
              next ((f64, (s_1.1.2 ++ [[(pS x62)]])), (IntKind.wrap .i64 (s_1.2 + (1)))) u_8))))
      (wk (.tup [(.list 1 s_1.1.1 s_1.1.2), (pB true)]) = metPV (metC K c))) ((f, rowsS K0), (0)) u_5 := by
    intro K0 f u hK0 tf hm
    rw [← metL_append'] at hm
    refine appL.go (by trivial) (by simp; omega) (by simp; omega) (fun f26 u4 t26 k26 => ?_)
    obtain ⟨tf4, d4⟩ := tipKeep (f1 := .nil) tf (fun x _ h => h) k26
    refine appL.go (by simpa using t26) (by simp; omega) (by simp; omega) fun f29 u5 t29 k29 => ?_
    obtain ⟨tf5, d5⟩ := tipKeep tf4 d4 k29
    rw [← List.map_append]
    have hlen : (c.attr ++ c.value).length ≤ 8 := by rw [List.length_append]; omega
    have hok : ∀ t ∈ c.attr ++ c.value, okT t := fun t ht => (List.mem_append.1 ht).elim (hta t) (htv t)
    refine LoopI.each2 (n := (c.attr ++ c.value).length) (by omega) (fun i x u => ∃ Ki, x.2 = rowsS Ki ∧ TipIn x.1 Ki.length 1 u ∧ metL K0 ((c.attr ++ c.value).take i) = some Ki ∧ Ki.length ≤ K0.length + i) ⟨K0, rfl, tf5, by simp [metL], by omega⟩ ?_ ?_
    · rintro i ⟨f, _⟩ u next hi ⟨Ki, rfl, i1, i2, i3⟩ hnext
      have hT := metL_take hi i2
      rw [metT_ref (hok _ (List.getElem_mem hi))] at hT
      refine CIf.t (decide_eq_true (by rw [List.length_map]; omega)) ⟨by omega, _, atRow hi, _, rfl, CIf.mk (fun h1 => hnext _ _ ⟨Ki, rfl, i1, by rw [hT, h1]; rfl, by omega⟩) (fun h1 => ⟨by omega, _, atRow hi, _, rfl, ?_⟩)⟩
      refine (cRHas f Ki _ (by omega)).call ⟨_, rfl, CIf.mk (fun h2 => hnext _ _ ⟨Ki, rfl, i1, by rw [hT, h1, h2]; rfl, by omega⟩) (fun h2 => ⟨by omega, _, atRow hi, _, rfl, CIf.mk (fun h3 => ?_) (fun h3 => ⟨by omega, _, atRow hi, _, rfl, ?_⟩)⟩)⟩
      · rw [h1, h2, h3] at hT
        have hn : metL K0 (c.attr ++ c.value) = none := metL_stop hi i2 (by rw [metT_ref (hok _ (List.getElem_mem hi)), h1, h2, h3]; rfl)
        rw [hm, hn]; rfl
      · rw [h1, h2, h3] at hT
        refine appL.go1 (by rw [rowsS_len]; exact i1) (by simp; omega) (by simp; omega) fun f' u' t' => hnext _ _ ⟨Ki ++ [(c.attr ++ c.value)[i].var], ?_, ?_, hT, by rw [List.length_append, List.length_singleton]; omega⟩
        · rw [rowsS_append]; rfl
        · simpa using t'
    · rintro ⟨f, _⟩ u next ⟨Ki, rfl, i1, i2, i3⟩
      rw [List.take_length] at i2
      refine CIf.f (by rw [List.length_map]; simp) ?_
      rw [hm, i2]; rfl
  refine CJoin.of fun J hJ => (cRHas f1 K c.id (by omega)).call ⟨_, rfl, CIf.mk (fun h1 => CIf.mk (fun h2 => ?_) (fun h2 => ?_)) (fun h1 => ?_)⟩
  · have h1 := nb h1; have h2 := nb h2
    have : metC K c = none := by simp [metC, h1, h2]
    rw [this]; rfl
  · have h1 := nb h1; have h2 := nt h2
    refine appL.go1 (by rw [rowsS_len]; exact t1) (by simp; omega) (by simp; omega) fun f2 μ2 t2 => hJ _ _ ?_
    have := go (K ++ [c.id]) f2 μ2 (by simp; omega) (by simpa using t2) (by
      have hh : hasB (K ++ [c.id]) c.id = true := hasB_iff.2 (by simp)
      simp [metC, h2, newK, h1, hh])
    rw [rowsS_append] at this
    exact this
  · have h1 := nt h1
    refine hJ _ _ (go K f1 _ (by omega) t1 ?_)
    cases hg : c.goal <;> simp [metC, hg, newK, h1]

@[reducible] def knowPV : Except Nat (List ByteArray) → PV
  | .error e => .tup [.list 1 .sh [], pI (e : Nat), pB false]
  | .ok K => .tup [.list 1 .sh (rowsS K), pI (-1), pB true]

theorem metC_len {K K' : List ByteArray} {c : Cond} (hc : okC c) (h : metC K c = some K') : K'.length ≤ K.length + 9 := by
  obtain ⟨_, ha, hv, _, _, _⟩ := (okC_eq c).1 hc
  have hT : ∀ {K K' : List ByteArray} {t : Test}, metT K t = some K' → K'.length ≤ K.length + 1 := by
    intro K K' t h
    unfold metT at h
    have := newK_len K t.var
    cases h1 : (t.rel == 8) || strEq t.var ⟨#[]⟩ <;> rw [h1] at h
    · simp only [cond_false] at h
      cases h2 : t.rel == 1 <;> rw [h2] at h
      · simp only [cond_false] at h
        cases h3 : hasB K t.var <;> rw [h3] at h
        · cases h
        · cases h; omega
      · cases h; rw [List.length_append]; omega
    · cases h; omega
  have hL : ∀ (ts : List Test) {K K' : List ByteArray}, metL K ts = some K' → K'.length ≤ K.length + ts.length := by
    intro ts
    induction ts with
    | nil => intro K K' h; cases h; simp
    | cons t ts ih =>
      intro K K' h
      simp only [metL] at h
      cases h1 : metT K t with
      | none => rw [h1] at h; cases h
      | some K1 =>
        rw [h1] at h
        have := ih h
        have := hT h1
        rw [List.length_cons]; omega
  unfold metC at h
  have hg : (bif c.goal then K ++ newK K c.id else K).length ≤ K.length + 1 := by
    have := newK_len K c.id
    cases c.goal
    · simp
    · rw [cond_true, List.length_append]; omega
  generalize hK0 : (bif c.goal then K ++ newK K c.id else K) = K0 at h hg
  simp only at h
  cases hh : hasB K0 c.id <;> rw [hh] at h
  · cases h
  · simp only [cond_true] at h
    cases h1 : metL K0 c.attr with
    | none => rw [h1] at h; cases h
    | some K1 =>
      rw [h1] at h
      have := hL _ h1
      have := hL _ (show metL K1 c.value = some K' from h)
      omega

theorem knowL_len : ∀ {l : List Cond} {n : Nat} {K K' : List ByteArray}, okL l → knowL l n K = .ok K' → K'.length ≤ K.length + 9 * sizeL l
  | [], n, K, K', _, h => by cases h; simp
  | c :: l, n, K, K', ho, h => by
    simp only [knowL] at h
    cases hc : knowC c n K with
    | error e => rw [hc] at h; cases h
    | ok K1 =>
      rw [hc] at h
      have h1 := knowL_len ho.2 h
      have h2 : K1.length ≤ K.length + 9 := by
        rw [knowC_eq] at hc
        cases h3 : c.kind == 3 <;> rw [h3] at hc
        · simp only [cond_false] at hc
          cases hm : metC K c with
          | none => rw [hm] at hc; cases hc
          | some K2 =>
            rw [hm] at hc
            have := metC_len ho.1 hm
            cases h4 : c.kind == 1 <;> rw [h4] at hc <;> cases hc
            · simp
            · exact this
        · simp only [cond_true] at hc
          cases hk : knowL c.conds (n + 1) K with
          | error e => rw [hk] at hc; cases hc
          | ok K2 => rw [hk] at hc; cases hc; omega
      simp only [sizeL, sizeC_eq]
      omega

theorem cKnows : ∀ (n : Nat) (fl fk : Fl) (l : List Cond) (at_ : Nat) (K : List ByteArray), sizeL l ≤ n → okL l → K.length ≤ 9 * at_ → at_ + sizeL l ≤ 1000 → Pure Try.prog 51 [.list 7 fl (l.map Cond.pv), pI (at_ : Nat), .list 1 fk (rowsS K)] (knowPV (knowL l at_ K)) := by
  intro n
  induction n with
  | zero =>
    intro fl fk l at_ K h _ _ _
    have : l = [] := by
      cases l with
      | nil => rfl
      | cons c l => simp [sizeL, sizeC_eq] at h
    subst this
    refine PureK.of (G_ponderref06_knows.c ?_)
    exact LoopI.eachA 0 (fun k s u => s = ((at_ : Int), (fk, rowsS K), (0 : Int))) rfl (fun k s u next hk => by omega) (fun s u next hs => by subst hs; exact CIf.f (by simp) rfl)
  | succ n ih =>
    intro fl fk l at_ K h hokl hK hsz
    have hll := sizeL_len l
    refine PureK.of (G_ponderref06_knows.c ?_)
    refine LoopI.eachA l.length (fun i s u => ∃ f Ki, s = (((at_ + sizeL (l.take i) : Nat) : Int), (f, rowsS Ki), (i : Int)) ∧ knowL (l.take i) at_ K = .ok Ki ∧ Ki.length ≤ 9 * (at_ + sizeL (l.take i))) ⟨fk, K, by simp [sizeL], by simp [knowL], by simp [sizeL]; omega⟩ ?_ ?_
    · rintro i _ u next hi ⟨f, Ki, rfl, i1, i2⟩ hnext
      have hm := sizeL_mem (List.getElem_mem hi)
      have hs := sizeL_split l (i + 1)
      have hst := sizeL_take hi
      rw [hst] at hs
      have hokc := okL_iff.1 hokl l[i] (List.getElem_mem hi)
      obtain ⟨hkind, _, _, _, _, hokcs⟩ := (okC_eq _).1 hokc
      have hT := knowL_take hi i1
      have hC := knowC_eq l[i] (at_ + sizeL (l.take i)) Ki
      have hk0 : rowM l[i].pv 0 1 = some [pI l[i].kind] := by rw [Cond.pv_eq]; rfl
      have hk6 : rowM l[i].pv 6 1 = some [.list 7 .sh (l[i].conds.map Cond.pv)] := by rw [Cond.pv_eq]; rfl
      have hrow : rowM l[i].pv 0 7 = some [pI l[i].kind, pB l[i].goal, pS l[i].id, .list 6 .sh (l[i].attr.map Test.pv), .list 6 .sh (l[i].value.map Test.pv), pB l[i].acc, .list 7 .sh (l[i].conds.map Cond.pv)] := by rw [Cond.pv_eq]; rfl
      refine CIf.t (by simpa using hi) ?_
      have hat1 : IntKind.wrap .i64 (((at_ + sizeL (l.take i) : Nat) : Int) + 1) = ((at_ + sizeL (l.take i) + 1 : Nat) : Int) := by rw [wrap_id (by omega) (by omega)]; omega
      have go : ∀ (f : Fl) (K' : List ByteArray) (u' : Mem), knowC l[i] (at_ + sizeL (l.take i)) Ki = .ok K' → K'.length ≤ 9 * (at_ + sizeL (l.take (i + 1))) →
          ((0 : Int) ≤ (i : Int) ∧ ∃ (r65 : List PV), (l.map Cond.pv)[Int.toNat (i : Int)]? = some r65 ∧ ∃ (x67f : Fl) (x67 : List (List PV)), rowM r65 6 1 = some [(.list 7 x67f x67)] ∧
            CallP Try.prog 45 [(.list 7 x67f x67)] u' fun v_2 u_4 => ∃ (x68 : Int), v_2 = (pI x68) ∧ next ((IntKind.wrap .i64 (((at_ + sizeL (l.take i) : Nat) : Int) + (IntKind.wrap .i64 ((1) + x68)))), (f, rowsS K'), (IntKind.wrap .i64 ((i : Int) + (1)))) u_4) := by
        intro f K' u' hk hlen
        refine ⟨by omega, _, atRow hi, _, _, hk6, (cRefSize _ .sh l[i].conds (Nat.le_refl _) (by omega)).call ⟨_, rfl, hnext _ _ ⟨f, K', ?_, by rw [hT, hk], hlen⟩⟩⟩
        rw [wrap_id (x := (1 : Int) + _) (by omega) (by omega), wrap_id (x := ((at_ + sizeL (l.take i) : Nat) : Int) + _) (by omega) (by omega), wrap_id (x := (i : Int) + 1) (by omega) (by omega), hst]
        congr 1
        omega
      refine CJoin.of fun J hJ => ⟨Int.natCast_nonneg i, _, atRow hi, _, hk0, CIf.mk (fun h3 => ?_) (fun h3 => ?_)⟩
      · rw [h3] at hC
        refine ⟨Int.natCast_nonneg i, _, atRow hi, _, _, hk6, ?_⟩
        dsimp only
        rw [hat1]
        refine (ih .sh f l[i].conds (at_ + sizeL (l.take i) + 1) Ki (by omega) hokcs (by omega) (by omega)).call ?_
        cases hr : knowL l[i].conds (at_ + sizeL (l.take i) + 1) Ki with
        | error e =>
          refine ⟨_, _, _, _, rfl, CIf.t rfl ?_⟩
          rw [knowL_stop hi i1 (e := e) (by rw [hC, hr]; rfl)]; rfl
        | ok K' =>
          refine ⟨_, _, _, _, rfl, CIf.f rfl (hJ _ _ (go f Ki _ (by rw [hC, hr]; rfl) ?_))⟩
          rw [hst]; omega
      · rw [h3] at hC
        have hcs : l[i].conds.length = 0 := by
          rcases hkind with h | h
          · rw [h] at h3; simp at h3
          · exact h.2
        have hpv : PV.agg [pI l[i].kind, pB l[i].goal, pS l[i].id, .list 6 .sh (l[i].attr.map Test.pv), .list 6 .sh (l[i].value.map Test.pv), pB l[i].acc, .list 7 .sh (l[i].conds.map Cond.pv)] = .agg l[i].pv := by rw [Cond.pv_eq]
        refine ⟨Int.natCast_nonneg i, _, atRow hi, _, _, _, _, _, _, _, _, _, _, hrow, ?_⟩
        rw [hpv]
        refine (cRMet f l[i] Ki hokc (by omega)).call ?_
        cases hr : metC Ki l[i] with
        | none =>
          refine ⟨_, _, _, rfl, CIf.t rfl ?_⟩
          rw [knowL_stop hi i1 (e := at_ + sizeL (l.take i)) (by rw [hC, hr]; rfl)]; rfl
        | some K' =>
          have hml := metC_len hokc hr
          refine ⟨_, _, _, rfl, CIf.f rfl ⟨Int.natCast_nonneg i, _, atRow hi, _, hk0, CIf.mk (fun h1 => hJ _ _ (go _ K' _ ?_ ?_)) (fun h1 => hJ _ _ (go f Ki _ ?_ ?_))⟩⟩
          · rw [hC, hr, h1]; rfl
          · rw [hst]; omega
          · rw [hC, hr, h1]; rfl
          · rw [hst]; omega
    · rintro _ u next ⟨f, Ki, rfl, i1, i2⟩
      rw [List.take_length] at i1
      refine CIf.f (by simp) ?_
      rw [i1]; rfl

theorem cSeen (fl : Fl) (a : Atom) (K : List ByteArray) (hl : K.length ≤ 1000000) : Pure Try.prog 52 [.agg a.pv, .list 1 fl (rowsS K)] (pB (!lackB K a)) := by
  refine PureK.of (G_ponderref06_seen.c ?_)
  refine CIf.mk (fun h => ?_) (fun h => (cRHas fl K a.var hl).call ⟨_, rfl, ?_⟩)
  · have : lackB K a = false := by unfold lackB; rw [h]; rfl
    rw [this]; rfl
  · have : lackB K a = !hasB K a.var := by unfold lackB; rw [h]; rfl
    rw [this, Bool.not_not]; rfl

theorem cRCheck (fc fa : Fl) (p : Prod) (hl : lightL p.conds) (hs : sizeL p.conds ≤ 1000000) (ha : p.acts.length ≤ 1000000) : Pure Try.prog 17 [prodPV fc fa p] (.tup [pI (checkE p).1, pI (checkE p).2.1]) := by
  refine PureK.of (G_ponderref06_Check.c ?_)
  refine (cRefShape .sh .sh p hl hs ha).call ⟨_, _, rfl, CIf.mk (fun h1 => ?_) (fun h1 => ?_)⟩
  · unfold checkE; rw [h1]; rfl
  have h0 : (shapeE p).2 = 0 := by simpa using h1
  obtain ⟨s1, s2, s3, s4, hok⟩ := shapeE_ok h0
  cases hc : p.conds with
  | nil => rw [hc] at s1; simp [sizeL] at s1
  | cons c cs =>
  refine ⟨by omega, c.pv, rfl, _, by rw [Cond.pv_eq]; rfl, CIf.mk (fun h2 => ?_) (fun h2 => ?_)⟩
  · unfold checkE; rw [h1, hc]; simp only [cond_false, List.head?_cons, Option.map_some, Option.getD_some, h2, cond_true]; rfl
  have hE : checkE p = match knowL p.conds 0 [] with
      | .error n => ((n : Int), 6, [])
      | .ok K => match firstL K 0 p.acts with
        | some i => (((sizeL p.conds + i : Nat) : Int), 6, [])
        | none => (-1, 0, K) := by
    unfold checkE
    rw [h1]
    simp only [cond_false]
    rw [show (p.conds.head?.map Cond.kind).getD 0 = c.kind by rw [hc]; rfl, h2]
    rfl
  rw [← hc]
  refine (cKnows _ fc .nil p.conds 0 [] (Nat.le_refl _) hok (by simp) (by omega)).call ?_
  cases hk : knowL p.conds 0 [] with
  | error e =>
    refine ⟨_, _, _, _, rfl, CIf.t rfl ?_⟩
    rw [hE, hk]; rfl
  | ok K =>
    have hKl : K.length ≤ 1000 := by have := knowL_len hok hk; simp at this; omega
    refine ⟨_, _, _, _, rfl, CIf.f rfl ((cRefSize _ fc p.conds (Nat.le_refl _) hs).call ⟨_, rfl, ?_⟩)⟩
    refine LoopI.each (n := p.acts.length) (by omega) (fun i u => firstL K 0 (p.acts.take i) = none) rfl ?_ ?_
    · rintro i u next hi hf hnext
      have hT := firstL_take hi hf
      refine CIf.t (by simpa using hi) ⟨by omega, _, atRow hi, _, _, _, _, _, _, _, _, _, _, _, _, _, _, _, _, _, _, _, rfl, ?_⟩
      have hit : lackA K p.acts[i] = true → wk (.tup [pI (IntKind.wrap .i64 (((sizeL p.conds : Nat) : Int) + (i : Int))), pI 6]) = .tup [pI (checkE p).1, pI (checkE p).2.1] := fun hl => by
        rw [hE, hk]
        simp only [firstL_hit hi hf hl, Nat.zero_add]
        rw [wrap_id (by omega) (by omega)]
        rfl
      have miss : lackA K p.acts[i] = false → next (IntKind.wrap .i64 ((i : Int) + 1)) u := fun hl => hnext _ (by rw [hT, hl]; rfl)
      refine (cSeen .sh p.acts[i].attr K (by omega)).call ⟨_, rfl, CIf.mk (fun a1 => ?_) (fun a1 => ?_)⟩
      · rw [Bool.not_not] at a1; exact hit (by unfold lackA; rw [a1]; rfl)
      rw [Bool.not_not] at a1
      refine CIf.mk (fun a2 => ?_) (fun a2 => miss (by unfold lackA; rw [a1, a2]; rfl))
      refine (cSeen .sh p.acts[i].value.a K (by omega)).call ⟨_, rfl, CIf.mk (fun a3 => ?_) (fun a3 => ?_)⟩
      · rw [Bool.not_not] at a3; exact hit (by unfold lackA; rw [a1, a2, a3]; rfl)
      rw [Bool.not_not] at a3
      refine (cSeen .sh p.acts[i].value.b K (by omega)).call ⟨_, rfl, CIf.mk (fun a4 => ?_) (fun a4 => ?_)⟩
      · rw [Bool.not_not] at a4; exact hit (by unfold lackA; rw [a1, a2, a3, a4]; rfl)
      · rw [Bool.not_not] at a4; exact miss (by unfold lackA; rw [a1, a2, a3, a4]; rfl)
    · rintro u next hf
      rw [List.take_length] at hf
      refine CIf.f (by simp) ?_
      rw [hE, hk]
      simp only [hf]
      rfl

theorem cRKnown (fc fa : Fl) (p : Prod) (hok : okL p.conds) (hs : sizeL p.conds ≤ 1000) : Pure Try.prog 54 [prodPV fc fa p, pI (p.conds.length : Nat)] (.list 1 .sh (match knowL p.conds 0 [] with | .error _ => [] | .ok K => rowsS K)) := by
  refine PureK.of (G_ponderref06_Known.c ?_)
  refine ⟨by omega, by omega, by simp, ?_⟩
  have e : List.drop (Int.toNat (0 : Int)) (List.take (Int.toNat ((p.conds.length : Nat) : Int)) (p.conds.map Cond.pv)) = p.conds.map Cond.pv := by
    rw [Int.toNat_natCast, List.take_of_length_le (by simp)]; rfl
  rw [e]
  refine (cKnows _ .sh .nil p.conds 0 [] (Nat.le_refl _) hok (by simp) (by omega)).call ?_
  cases knowL p.conds 0 [] with
  | error e => exact ⟨_, _, _, _, rfl, rfl⟩
  | ok K => exact ⟨_, _, _, _, rfl, rfl⟩

theorem checkE_ok {p : Prod} (h : (checkE p).2.1 = 0) : (shapeE p).2 = 0 ∧ knowL p.conds 0 [] = .ok (checkE p).2.2 := by
  unfold checkE at h ⊢
  cases h1 : (shapeE p).2 != 0 <;> rw [h1] at h
  · have h0 : (shapeE p).2 = 0 := by simpa using h1
    refine ⟨h0, ?_⟩
    simp only [cond_false] at h ⊢
    cases h2 : (p.conds.head?.map Cond.kind).getD 0 != 1 <;> rw [h2] at h
    · simp only [cond_false] at h ⊢
      cases hk : knowL p.conds 0 [] with
      | error e => rw [hk] at h; simp at h
      | ok K =>
        rw [hk] at h
        simp only at h ⊢
        cases hf : firstL K 0 p.acts with
        | some i => rw [hf] at h; simp at h
        | none => rfl
    · simp at h
  · simp only [cond_true] at h; simp [h] at h1

theorem checkE_no {p : Prod} (h : (checkE p).2.1 ≠ 0) : (checkE p).2.2 = [] := by
  unfold checkE at h ⊢
  cases h1 : (shapeE p).2 != 0 <;> rw [h1] at h
  · simp only [cond_false] at h ⊢
    cases h2 : (p.conds.head?.map Cond.kind).getD 0 != 1 <;> rw [h2] at h
    · simp only [cond_false] at h ⊢
      cases hk : knowL p.conds 0 [] with
      | error e => rfl
      | ok K =>
        rw [hk] at h
        simp only at h ⊢
        cases hf : firstL K 0 p.acts with
        | some i => rfl
        | none => rw [hf] at h; simp at h
    · rfl
  · rfl

theorem cRVars (fc fa : Fl) (p : Prod) (hl : lightL p.conds) (hs : sizeL p.conds ≤ 1000000) (ha : p.acts.length ≤ 1000000) : Pure Try.prog 24 [prodPV fc fa p] (.list 1 .sh (rowsS (checkE p).2.2)) := by
  refine PureK.of (G_ponderref06_Vars.c ?_)
  refine (cRCheck .sh .sh p hl hs ha).call ⟨_, _, rfl, CIf.mk (fun h => ?_) (fun h => ?_)⟩
  · rw [checkE_no (by simpa using h)]; rfl
  · obtain ⟨h1, h2⟩ := checkE_ok (p := p) (by simpa using h)
    obtain ⟨_, s2, _, _, hok⟩ := shapeE_ok h1
    rw [List.length_map]
    refine (cRKnown .sh .sh p hok (by omega)).call ⟨_, _, rfl, ?_⟩
    rw [h2]; rfl

end Go.Proofs.Ytfjemjnbemdkgaa
