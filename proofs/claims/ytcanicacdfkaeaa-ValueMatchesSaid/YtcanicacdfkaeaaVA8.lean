import Derived.Test.YtcanicacdfkaeaaVA7
set_option maxRecDepth 100000
set_option linter.unusedVariables false
set_option linter.unusedSimpArgs false
namespace Go.Proofs.Ytcanicacdfkaeaa.Va
open Go Go.Am
def od13 : Ords := [(6, [0, 1, 2, 3, 4, 5, 6, 7, 1008, 9])]
def od3 : Ords := [(4, [1000, 1, 2, 3, 4, 6, 7, 8, 9, 10, 11, 5, 1012, 13, 14, 15])]
theorem code13 : codeB Try.f13.ntmps od13 (match Try.f13.body with | some c => c | none => .skip) = true := by kernel_rfl
theorem code3 : codeB Try.f3.ntmps od3 (match Try.f3.body with | some c => c | none => .skip) = true := by kernel_rfl
theorem take_all_succ {l : List Prd} {j : Nat} {q : Prd} (g : Prd → Bool) (h : l[j]? = some q) : (l.take (j + 1)).all g = ((l.take j).all g && g q) := by
  obtain ⟨h1, h2⟩ := List.getElem?_eq_some_iff.1 h
  rw [List.take_add_one, List.all_append, h]
  simp
set_option maxHeartbeats 8000000 in
theorem ok25 (s : List Att) (hsl : s.length ≤ 4611686018427387904) (f : List Prd) (hsz : ∀ p ∈ f, p.str.size ≤ 4611686018427387904) : Go.Am.Pure Try.prog 25 [slF atC s, slF prC f] (.d (nI (optI (fltErr s f)))) := by
  refine CallOk.of tysOk mixed od25 Try.func25 rfl rfl code25 ?_
  have bad : ((f.length : Int) < 1 ∨ (f.length : Int) > 4) → ∀ {σ : Store}, RetQ ([] : Store).length (fun v s' => v = .d (nI (optI (fltErr s f))) ∧ s' = []) .ret [(0, mkRet [.d (nI 0)])] σ := fun h σ => by
    refine RetQ.pure rfl ?_
    unfold fltErr
    rw [if_pos h]
    rfl
  refine W.ite (fun c1 => ?_) (fun c1 => ?_)
  · repeat (first | refine W.ite_t rfl ?_ | refine W.ite_f rfl ?_ | refine W.ite_t c1 ?_)
    exact W.ret (bad (.inl (of_decide_eq_true c1)))
  repeat (first | refine W.ite_t rfl ?_ | refine W.ite_f rfl ?_ | refine W.ite_f c1 ?_)
  refine W.ite (fun c2 => ?_) (fun c2 => ?_)
  · exact W.ret (bad (.inr (of_decide_eq_true c2)))
  have h1 := of_decide_eq_false c1
  have h2 := of_decide_eq_false c2
  have hE : fltErr s f = fltFrom s f f 0 := by unfold fltErr; rw [if_neg (by rintro (h | h); exact h1 h; exact h2 h)]
  rw [hE]
  clear bad
  refine W.loop (fun k fr σ => ∃ i : Nat, fr = [(0, slF atC s), (1, slF prC f), (19, slF prC f), (20, .d (nI f.length)), (21, .d (nI i))] ∧ σ = [] ∧ i ≤ f.length ∧ fltFrom s f (f.drop i) i = fltFrom s f f 0 ∧ k = f.length - i) f.length
    (Start.of [0, 1, 19, 20, 21] [] (by simp)) ⟨0, rfl, rfl, by omega, rfl, rfl⟩ ?_
  rintro k fr σ ⟨i, rfl, rfl, hi, hr, rfl⟩
  refine W.ite (fun c3 => ?_) (fun c3 => ?_)
  · have hil : i < f.length := by have := of_decide_eq_true c3; omega
    obtain ⟨p, hp⟩ : ∃ x, f[i]? = some x := ⟨_, List.getElem?_eq_getElem hil⟩
    have hps := hsz p (List.mem_of_getElem? hp)
    rw [drop_cons hp, fltFrom] at hr
    have g1 : IntKind.i64.wrap ((i : Int) + 1) = ((i + 1 : Nat) : Int) := by rw [wrap64 (by omega) (by omega)]; rfl
    have isBad : prdBad s f i p = true → ∀ {σ : Store}, RetQ ([] : Store).length (fun v s' => v = .d (nI (optI (fltFrom s f f 0))) ∧ s' = []) .ret [(0, mkRet [.d (nI i)])] σ := fun h σ => by
      refine RetQ.pure rfl ?_
      rw [h] at hr
      rw [← hr]
      rfl
    have isGood : prdBad s f i p = false → ∀ {fr : Fr} {b : Blk}, fr.get 0 = slF atC s → fr.get 1 = slF prC f → fr.get 19 = slF prC f → fr.get 20 = .d (nI f.length) → fr.get 21 = .d (nI (IntKind.i64.wrap ((i : Int) + 1))) →
        ∃ m fr' σ', m < f.length - i ∧ Trim ([] : Store).length fr [b] fr' σ' ∧ ∃ i : Nat, fr' = [(0, slF atC s), (1, slF prC f), (19, slF prC f), (20, .d (nI f.length)), (21, .d (nI i))] ∧ σ' = [] ∧ i ≤ f.length ∧ fltFrom s f (f.drop i) i = fltFrom s f f 0 ∧ m = f.length - i := fun h {fr b} h0 h1 h19 h20 h21 => by
      rw [h] at hr
      rw [g1] at h21
      refine ⟨_, _, _, ?_, Trim.of [0, 1, 19, 20, 21] [] (by decide) (by simp) (by simp), i + 1, ?_, rfl, by omega, hr, rfl⟩
      · omega
      · simp only [keepFr, h0, h1, h19, h20, h21]; rfl
    refine W.need (ix_ok prC_len (by decide) hil) ?_
    refine W.ld (prE hp) ?_
    have hfind := findA_spec s p.nm
    refine W.pure (ok28 s hsl p.nm) rfl rfl ?_
    refine W.need ⟨by omega, by omega⟩ ?_
    generalize hF : f.take i = F at *
    have hFl : F.length = i := by rw [← hF, List.length_take]; omega
    have hraw : AV.d (.sl (i - 0) (((flat prC f).drop (0 * 5)).take ((i - 0) * 5))) = slF prC F := by rw [← hF]; exact (cutP hi).symm
    have hpar : ∀ q, (!(p.nm.toList == q)) = (!(q == p.nm.toList)) := fun q => by
      congr 1
      cases h : p.nm.toList == q with
      | true => rw [eq_of_beq h]; simp
      | false =>
        rw [beq_eq_false_iff_ne] at h
        symm
        rw [beq_eq_false_iff_ne]
        exact fun e => h e.symm
    have hinner : ∀ {K : Fr → Store → Res}, True := fun {K} => True.intro
    refine W.loop (fun k fr σ => ∃ (j : Nat) (b : Bool), fr = [(0, slF atC s), (1, slF prC f), (19, slF prC f), (20, .d (nI f.length)), (21, .d (nI i)), (5, .d (nI i)), (6, .ptr 0 0), (7, .d (nI (findA s p.nm))), (8, .d (.lit (.bool b))), (34, slF prC F), (35, .d (nI F.length)), (36, .d (nI j))] ∧ σ = [bD (prC p)] ∧ j ≤ F.length ∧ b = (decide (findA s p.nm ≥ 0) && (F.take j).all (fun q => !sEq q.nm p.nm)) ∧ k = F.length - j) F.length
      (Start.of [0, 1, 19, 20, 21, 5, 6, 7, 8, 34, 35, 36] [] (by simp)) ⟨0, decide (findA s p.nm ≥ 0), by rw [← hraw, hFl]; rfl, rfl, by omega, by simp, rfl⟩ ?_
    rintro k fr σ ⟨j, b, rfl, rfl, hj, hb, rfl⟩
    refine W.ite (fun c4 => ?_) (fun c4 => ?_)
    · have hjl : j < F.length := by have := of_decide_eq_true c4; omega
      obtain ⟨q, hq⟩ : ∃ x, F[j]? = some x := ⟨_, List.getElem?_eq_getElem hjl⟩
      have gj : IntKind.i64.wrap ((j : Int) + 1) = ((j + 1 : Nat) : Int) := by rw [wrap64 (by omega) (by omega)]; rfl
      refine W.need (ix_ok prC_len (by decide) hjl) ?_
      refine W.ld (prE hq) ?_
      cases b with
      | true =>
        repeat (first | refine W.ite_t rfl ?_ | refine W.ite_f rfl ?_)
        refine W.ret ⟨_, _, _, ?_, Trim.of [0, 1, 19, 20, 21, 5, 6, 7, 8, 34, 35, 36] [0] (by decide) (by simp) (by intro z hz; have : z = 0 := (by simp at hz; omega); subst this; rfl), j + 1, !(p.nm.toList == q.nm.toList), ?_, rfl, by omega, ?_, rfl⟩
        · omega
        · rw [← gj]; rfl
        · rw [take_all_succ _ hq, ← Bool.and_assoc, ← hb, Bool.true_and]
          exact hpar q.nm.toList
      | false =>
        repeat (first | refine W.ite_t rfl ?_ | refine W.ite_f rfl ?_)
        refine W.ret ⟨_, _, _, ?_, Trim.of [0, 1, 19, 20, 21, 5, 6, 7, 8, 34, 35, 36] [0] (by decide) (by simp) (by intro z hz; have : z = 0 := (by simp at hz; omega); subst this; rfl), j + 1, false, ?_, rfl, by omega, ?_, rfl⟩
        · omega
        · rw [← gj]; rfl
        · rw [take_all_succ _ hq, ← Bool.and_assoc, ← hb]; rfl
    · have hjl : F.take j = F := by have := of_decide_eq_false c4; exact List.take_of_length_le (by omega)
      rw [hjl] at hb
      refine W.ret ?_
      cases b with
      | false =>
        repeat (first | refine W.ite_t rfl ?_ | refine W.ite_f rfl ?_)
        refine W.ret (W.ret (isBad ?_))
        unfold prdBad
        rw [hF]
        cases h : decide (findA s p.nm ≥ 0) with
        | false =>
          have : decide (findA s p.nm < 0) = true := decide_eq_true (by have := of_decide_eq_false h; omega)
          rw [this]; rfl
        | true =>
          rw [h, Bool.true_and] at hb
          have : F.any (fun q => sEq q.nm p.nm) = true := by
            cases h' : F.any (fun q => sEq q.nm p.nm) with
            | true => rfl
            | false =>
              have : F.all (fun q => !sEq q.nm p.nm) = true := by
                rw [List.all_eq_true]
                intro q hq
                have := List.any_eq_false.1 h' q hq
                simpa using this
              rw [this] at hb
              cases hb
          rw [this]; simp
      | true =>
        have hb := hb.symm
        simp only [Bool.and_eq_true, decide_eq_true_eq, List.all_eq_true, Bool.not_eq_true'] at hb
        obtain ⟨hk0, hall⟩ := hb
        rcases hfind with hk | ⟨k, a, hk, ha, hat⟩
        · omega
        have hkl := (List.getElem?_eq_some_iff.1 ha).1
        rw [hk]
        have hix := ix_ok atC_len (by decide) hkl
        have hany : F.any (fun q => sEq q.nm p.nm) = false := by
          rw [List.any_eq_false]
          intro q hq
          rw [hall q hq]; decide
        have hb : prdBad s f i p = !prdOk a p := by
          unfold prdBad
          rw [hF, hany, hat, decide_eq_false (show ¬ findA s p.nm < 0 by omega)]
          rfl
        repeat (first | refine W.ite_t rfl ?_ | refine W.ite_f rfl ?_ | refine W.need hix ?_ | refine W.ld (atE ha) ?_)
        refine W.pure (ok41 a p hps) rfl rfl ?_
        repeat (first | refine W.ite_t rfl ?_ | refine W.ite_f rfl ?_)
        refine W.ite (fun c5 => ?_) (fun c5 => ?_)
        · exact W.ret (W.ret (isBad (by rw [hb]; exact c5)))
        · exact W.ret (isGood (by rw [hb]; exact c5) rfl rfl rfl rfl rfl)
  · have hil : f.drop i = [] := by have := of_decide_eq_false c3; exact List.drop_of_length_le (by omega)
    rw [hil] at hr
    refine W.ret (W.ret ?_)
    refine RetQ.pure rfl ?_
    rw [← hr]
    rfl
theorem optI_ge (o : Option Nat) : decide (optI o ≥ 0) = decide (o ≠ none) := by
  cases o with
  | none => rfl
  | some i => simp [optI]
set_option maxHeartbeats 4000000 in
theorem ok13 (s : List Att) (hsl : s.length ≤ 4611686018427387904) (f : List Prd) (hfz : ∀ p ∈ f, p.str.size ≤ 4611686018427387904) (e : Evt) (hez : ∀ v ∈ e.vals, v.str.size ≤ 4611686018427387904) :
    Go.Am.Pure Try.prog 13 [slF atC s, slF prC f, slF vaC e.vals, .d (nI e.pay.size)] (bI (matchV s f e)) := by
  refine CallOk.of tysOk mixed od13 Try.func13 rfl rfl code13 ?_
  have no : (fltErr s f ≠ none ∨ evtErr s e ≠ none) → ∀ {σ : Store}, RetQ ([] : Store).length (fun v s' => v = bI (matchV s f e) ∧ s' = []) .ret [(0, mkRet [.d (.lit (.bool false))])] σ := fun h σ => by
    refine RetQ.pure rfl (ret_bI ?_)
    unfold matchV
    rw [if_pos h]
  have k1 := ok25 s hsl f hfz
  have k2 := ok26 s hsl e hez
  cases hf : fltErr s f with
  | some i =>
    rw [hf] at k1
    have d1 : decide ((i : Int) ≥ 0) = true := decide_eq_true (by omega)
    refine W.pure k1 rfl rfl ?_
    repeat (first | refine W.ite_t rfl ?_ | refine W.ite_f rfl ?_ | refine W.ite_t d1 ?_)
    exact W.ret (no (.inl (by rw [hf]; simp)))
  | none =>
    rw [hf] at k1
    refine W.pure k1 rfl rfl ?_
    repeat (first | refine W.ite_t rfl ?_ | refine W.ite_f rfl ?_)
    cases he : evtErr s e with
    | some i =>
      rw [he] at k2
      have d1 : decide ((i : Int) ≥ 0) = true := decide_eq_true (by omega)
      refine W.pure k2 rfl rfl ?_
      repeat (first | refine W.ite_t rfl ?_ | refine W.ite_f rfl ?_ | refine W.ite_t d1 ?_)
      exact W.ret (no (.inr (by rw [he]; simp)))
    | none =>
      rw [he] at k2
      refine W.pure k2 rfl rfl ?_
      repeat (first | refine W.ite_t rfl ?_ | refine W.ite_f rfl ?_)
      have hfl := fltErr_none hf
      have hel := evtErr_none he
      refine W.loop (fun k fr σ => ∃ i : Nat, fr = [(0, slF atC s), (2, slF vaC e.vals), (22, slF prC f), (23, .d (nI f.length)), (24, .d (nI i))] ∧ σ = [] ∧ i ≤ f.length ∧ (∀ j p, j < i → f[j]? = some p → takeV p (valOf s e p.nm) = true) ∧ k = f.length - i) f.length
        (Start.of [0, 2, 22, 23, 24] [] (by simp)) ⟨0, rfl, rfl, by omega, fun j p h => by omega, rfl⟩ ?_
      rintro k fr σ ⟨i, rfl, rfl, hi, hall, rfl⟩
      refine W.ite (fun c3 => ?_) (fun c3 => ?_)
      · have hil : i < f.length := by have := of_decide_eq_true c3; omega
        obtain ⟨p, hp⟩ : ∃ x, f[i]? = some x := ⟨_, List.getElem?_eq_getElem hil⟩
        have hpm := List.mem_of_getElem? hp
        obtain ⟨hnf, _⟩ := prd_found hf hpm
        rcases findA_spec s p.nm with hk | ⟨k, a, hk, ha, hat⟩
        · exact absurd hk hnf
        have hkl := (List.getElem?_eq_some_iff.1 ha).1
        obtain ⟨v, hv⟩ : ∃ x, e.vals[k]? = some x := ⟨_, List.getElem?_eq_getElem (by omega)⟩
        have hvo : valOf s e p.nm = v := by unfold valOf; rw [hk]; simp [hv]
        have g1 : IntKind.i64.wrap ((i : Int) + 1) = ((i + 1 : Nat) : Int) := by rw [wrap64 (by omega) (by omega)]; rfl
        refine W.need (ix_ok prC_len (by decide) hil) ?_
        refine W.ld (prE hp) ?_
        refine W.pure (hk ▸ ok28 s hsl p.nm) rfl rfl ?_
        refine W.need (ix_ok vaC_len (by decide) (by omega)) ?_
        refine W.ld (vaE hv) ?_
        refine W.pure (ok27 p v) rfl rfl ?_
        refine W.ite (fun c4 => ?_) (fun c4 => ?_)
        · have h4 : takeV p v = false := by simpa using c4
          refine W.ret (W.ret ?_)
          refine RetQ.pure rfl (ret_bI ?_)
          symm
          rw [Bool.eq_false_iff]
          intro hm
          have := (matchV_iff.1 hm).2.2 p hpm
          rw [hvo, h4] at this
          cases this
        · have h4 : takeV p v = true := by simpa using c4
          refine W.ret ⟨_, _, _, ?_, Trim.of [0, 2, 22, 23, 24] [] (by decide) (by simp) (by simp), i + 1, ?_, rfl, by omega, ?_, rfl⟩
          · omega
          · rw [← g1]; rfl
          · intro j q hj hq
            by_cases e' : j = i
            · subst e'
              rw [hp] at hq
              obtain rfl := Option.some.inj hq
              rw [hvo]; exact h4
            · exact hall j q (by omega) hq
      · have hge : i = f.length := by have := of_decide_eq_false c3; omega
        subst hge
        refine W.ret (W.ret ?_)
        refine RetQ.pure rfl (ret_bI ?_)
        symm
        rw [matchV_iff]
        refine ⟨hf, he, fun p hp => ?_⟩
        obtain ⟨j, hj⟩ := List.getElem?_of_mem hp
        exact hall j p ((List.getElem?_eq_some_iff.1 hj).1) hj
theorem prd6_small (f : List Prd) : ∀ p ∈ prd6 f, p.str.size ≤ 4611686018427387904 := fun p hp => by
  obtain ⟨q, _, rfl⟩ := List.mem_map.1 hp
  have := cutN_le q.str 50
  show (cutN q.str 50).size ≤ _
  omega
theorem evt6_small (e : Evt) : ∀ v ∈ (evt6 e).vals, v.str.size ≤ 4611686018427387904 := fun p hp => by
  obtain ⟨q, _, rfl⟩ := List.mem_map.1 hp
  have := cutN_le q.str 50
  show (cutN q.str 50).size ≤ _
  omega
theorem ok3 (s : List Att) (e0 : Evt) (f0 : List Prd) : Go.Am.Pure Try.prog 3 [slF atC s, .d (.agg (evC e0)), slF prC f0] (bI true) := by
  refine CallOk.of tysOk mixed od3 Try.func3 rfl rfl code3 ?_
  refine W.pure (ok8 s) rfl rfl ?_
  refine W.pure (ok9 e0) rfl rfl ?_
  refine W.pure (ok10 f0) rfl rfl ?_
  have hp6 := att6_len s
  have hfz := prd6_small f0
  have hez := evt6_small e0
  generalize att6 s = p at *
  generalize evt6 e0 = e at *
  generalize prd6 f0 = g at *
  refine W.pure ok11 rfl rfl ?_
  repeat (first | refine W.ite_t rfl ?_ | refine W.ite_f rfl ?_)
  refine W.pure (ok12 p (by omega) g e) rfl rfl ?_
  repeat (first | refine W.ite_t rfl ?_ | refine W.ite_f rfl ?_)
  refine W.pure (ok13 p (by omega) g hfz e hez) rfl rfl ?_
  have d : (matchV p g e == matchV p g e) = true := by simp
  repeat (first | refine W.ite_t rfl ?_ | refine W.ite_f rfl ?_)
  refine W.ret ?_
  refine RetQ.pure rfl ?_
  exact ret_bI d
end Go.Proofs.Ytcanicacdfkaeaa.Va
