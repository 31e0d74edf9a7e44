import Derived.Test.YtjibnmmpbpheiaaW8
set_option maxRecDepth 100000
set_option linter.unusedVariables false
set_option linter.unusedSimpArgs false
namespace Go.Proofs.Ytjibnmmpbpheiaa.Wi
open Go Go.Am
/-- A window knows that an event came. -/
def known (s : Wn) (x : Int × Int) : Prop := x.2 ≤ (get s x.1).1 ∧ (x.2 - (get s x.1).1 ≤ -64 ∨ (get s x.1).2.testBit ((get s x.1).1 - x.2).toNat = true)
theorem comeV_code (v : Int × Nat) (n : Int) : 1 ≤ (comeV v n).1 ∧ (comeV v n).1 ≤ 3 := by
  unfold comeV
  split
  · simp
  · split
    · simp
    · split <;> simp
theorem known_old {s s' : Wn} {x : Int × Int} {c : Int} (h : known s x) (hc : come s x.1 x.2 = (c, s')) : c ≠ 1 := by
  have h1 := come_fst s x.1 x.2
  rw [hc] at h1
  dsimp only at h1
  obtain ⟨k1, k2⟩ := h
  cases hg : get s x.1 with
  | mk l b =>
    rw [hg] at h1 k1 k2
    dsimp only at k1 k2
    by_cases ho : x.2 - l ≤ -64
    · rw [comeV_old ho] at h1
      rw [h1]; decide
    · rw [comeV_known k1 ho (k2.resolve_left ho)] at h1
      rw [h1]; decide
theorem known_new {s s' : Wn} {p n : Int} (hc : come s p n = (1, s')) : known s' (p, n) := by
  have h1 := come_fst s p n
  have h2 := get_come s p n p
  rw [hc] at h1 h2
  rw [if_pos rfl] at h2
  dsimp only at h1 h2
  unfold known
  dsimp only
  cases hg : get s p with
  | mk l b =>
    rw [hg] at h1 h2
    rcases Int.lt_or_le l n with h | h
    · obtain ⟨X, e1, e2, _⟩ := comeV_new (l := l) (n := n) (c := b) h
      rw [e1] at h2
      rw [h2]
      refine ⟨Int.le_refl _, .inr ?_⟩
      show X.testBit (n - n).toNat = true
      rw [Int.sub_self]
      exact e2
    · by_cases ho : n - l ≤ -64
      · rw [comeV_old ho] at h1
        cases h1
      · cases hb : b.testBit (l - n).toNat with
        | true =>
          rw [comeV_known h ho hb] at h1
          cases h1
        | false =>
          rw [comeV_fill h ho hb] at h2
          rw [h2]
          refine ⟨h, .inr ?_⟩
          show (b ||| 2 ^ (l - n).toNat).testBit (l - n).toNat = true
          rw [Nat.testBit_or]
          simp [Nat.testBit_two_pow_self]
theorem known_keep {s : Wn} {x : Int × Int} (p n : Int) (h : known s x) : known (come s p n).2 x := by
  obtain ⟨q, m⟩ := x
  have h2 := get_come s p n q
  unfold known at *
  dsimp only at *
  rw [h2]
  by_cases hq : q = p
  · subst hq
    rw [if_pos rfl]
    cases hg : get s q with
    | mk l b =>
      rw [hg] at h
      dsimp only at h
      obtain ⟨k1, k2⟩ := h
      unfold comeV
      by_cases h1 : n > l
      · rw [if_pos (show n > (l, b).1 from h1)]
        show m ≤ n ∧ (m - n ≤ -64 ∨ Nat.testBit (if n - l < 64 then (b * 2 ^ (n - l).toNat) % 18446744073709551616 ||| 1 else 1) (n - m).toNat = true)
        refine ⟨by omega, ?_⟩
        by_cases ho : m - n ≤ -64
        · exact .inl ho
        · right
          rw [if_pos (by omega)]
          have hb := k2.resolve_left (by omega)
          rw [Nat.testBit_or, show (18446744073709551616 : Nat) = 2 ^ 64 from by decide, Nat.testBit_mod_two_pow, ← Nat.shiftLeft_eq, Nat.testBit_shiftLeft]
          have e1 : (n - m).toNat - (n - l).toNat = (l - m).toNat := by omega
          have e2 : (n - m).toNat < 64 := by omega
          have e3 : (n - m).toNat ≥ (n - l).toNat := by omega
          rw [e1, hb]
          simp [e2, e3]
      · rw [if_neg (show ¬ n > (l, b).1 from h1)]
        split
        · exact ⟨k1, k2⟩
        · split
          · exact ⟨k1, k2⟩
          · show m ≤ l ∧ (m - l ≤ -64 ∨ (b ||| 2 ^ (l - n).toNat).testBit (l - m).toNat = true)
            refine ⟨k1, k2.imp id fun h => ?_⟩
            rw [Nat.testBit_or, h]
            rfl
  · rw [if_neg hq]
    exact h
/-! ### the walk -/
def once (s : Wn) (fresh : List (Int × Int)) : Store := winB 2 s :: .vec 2 fresh.length (prs fresh) :: winM s
theorem winO {P : Program} {f : FuncId} {r : List D} {s s' : Wn} {fresh : List (Int × Int)} {x : AV} {L : List Nat} {k : AV → Store → Res} {Q : AExit → Fr → Store → Prop} (hx : x.closed = true) (hL : L = [])
    (h : CallOk P f (.ptr 0 0 :: r.map .d) (winS s) (fun v σ => v = x ∧ σ = winS s')) (hm : s' = none → s = none) (hk : W P (k x (once s' fresh)) Q) : W P (.call f (.ptr 0 0 :: r.map .d) (once s fresh) L k) Q := by
  subst hL
  cases s with
  | none =>
    refine W.call [0] (by decide) (by simp [once]) (by simp) (args' := .ptr 0 0 :: r.map .d) (σ' := winS none) ?_ rfl h ?_
    · show _ :: AV.subL _ _ (r.map .d) = _
      rw [subL_ds]; rfl
    · rintro v σ ⟨rfl, rfl⟩
      rw [closed_sub hx]
      cases s' <;> exact hk
  | some t =>
    cases s' with
    | none => cases hm rfl
    | some t' =>
      refine W.call [0, 2] (by decide) (by simp [once, winM]) (by simp) (args' := .ptr 0 0 :: r.map .d) (σ' := winS (some t)) ?_ rfl h ?_
      · show _ :: AV.subL _ _ (r.map .d) = _
        rw [subL_ds]; rfl
      · rintro v σ ⟨rfl, rfl⟩
        rw [closed_sub hx]
        exact hk
theorem prs_take (l : List (Int × Int)) : (prs l).take (l.length * 2) = prs l := List.take_of_length_le (by rw [prs_length]; omega)
/-- What is read at an element of a row of pairs. -/
def Q0 (l : List (Int × Int)) (i : Nat) : Int := (rdD ((prs l).take (l.length * 2)) (i * 2)).toI
def Q1 (l : List (Int × Int)) (i : Nat) : Int := (rdD ((prs l).take (l.length * 2)) (i * 2 + 1)).toI
theorem At.ixT {l i p n} (h : At l i p n) : (0 : Int) ≤ i ∧ (i : Int) < l.length ∧ (prs l).take (l.length * 2) ≠ [] := by rw [prs_take]; exact h.ix
theorem At.n2T {l i p n} (h : At l i p n) : i * 2 + 2 ≤ ((prs l).take (l.length * 2)).length ∧ formedOk ((prs l).take (l.length * 2)) [.int .i64, .int .i64] (i * 2) := by rw [prs_take]; exact h.n2
theorem At.q0 {l i p n} (h : At l i p n) : Q0 l i = p := by unfold Q0; rw [prs_take]; exact h.e0
theorem At.q1 {l i p n} (h : At l i p n) : Q1 l i = n := by unfold Q1; rw [prs_take]; exact h.e1
theorem prs_one : ∀ (L : List (Int × Int)), ∀ c ∈ prs L, c.one = true
  | [], c, h => by simp [prs] at h
  | p :: r, c, h => by
    simp only [prs, List.mem_cons] at h
    rcases h with rfl | rfl | h
    · rfl
    · rfl
    · exact prs_one r c h
theorem end3 {l fresh : List (Int × Int)} {i : Nat} {s : Wn} {fr : Fr} (hi : i < 100) (hs : GoodW s) (hf : ∀ x ∈ fresh, known s x) (hl : fresh.length ≤ i + 1) (h0 : fr.get 0 = slP l) (h3 : fr.get 3 = .ptr 0 0) (h4 : fr.get 4 = .vec 1 fresh.length) (h5 : fr.get 5 = .d (nI (IntKind.i64.wrap ((i : Int) + 1)))) :
    ∃ m fr' σ', m < 100 - i ∧ Trim 2 fr (once s fresh) fr' σ' ∧ ∃ (i : Nat) (s : Wn) (fresh : List (Int × Int)), fr' = [(0, slP l), (3, .ptr 0 0), (4, .vec 1 fresh.length), (5, .d (nI i))] ∧ σ' = once s fresh ∧ GoodW s ∧ (∀ x ∈ fresh, known s x) ∧ fresh.length ≤ i ∧ i ≤ 100 ∧ m = 100 - i := by
  have g1 : IntKind.i64.wrap ((i : Int) + 1) = ((i + 1 : Nat) : Int) := by rw [wrap64 (by omega) (by omega)]; rfl
  rw [g1] at h5
  cases s with
  | none =>
    refine ⟨_, _, _, ?_, Trim.of [0, 3, 4, 5] [0, 1] (by decide) (by simp [once]) (by intro j hj; have : j = 0 ∨ j = 1 := (by omega); rcases this with rfl | rfl <;> rfl), i + 1, none, fresh, ?_, rfl, hs, hf, hl, by omega, rfl⟩
    · omega
    · simp only [keepFr, h0, h3, h4, h5]; rfl
  | some t =>
    refine ⟨_, _, _, ?_, Trim.of [0, 3, 4, 5] [0, 1, 2] (by decide) (by simp [once, winM]) (by intro j hj; have : j = 0 ∨ j = 1 := (by omega); rcases this with rfl | rfl <;> rfl), i + 1, some t, fresh, ?_, rfl, hs, hf, hl, by omega, rfl⟩
    · omega
    · simp only [keepFr, h0, h3, h4, h5]; rfl
def od3 : Ords := [(6, [0, 1, 2, 3, 4, 5, 6, 7, 8, 9, 1010, 11, 12, 13, 14, 15]), (15, [0, 1, 2, 3, 4, 5, 6, 7, 8, 9])]
theorem code3 : codeB Try.f3.ntmps od3 (match Try.f3.body with | some c => c | none => .skip) = true := by kernel_rfl
set_option maxHeartbeats 8000000 in
theorem ok3 (l : List (Int × Int)) : Go.Am.Pure Try.prog 3 [slP l] (bI true) := by
  refine CallOk.of tysOk mixed od3 Try.func3 rfl rfl code3 ?_
  refine W.loop (fun k fr σ => ∃ (i : Nat) (s : Wn) (fresh : List (Int × Int)), fr = [(0, slP l), (3, .ptr 0 0), (4, .vec 1 fresh.length), (5, .d (nI i))] ∧ σ = once s fresh ∧ GoodW s ∧ (∀ x ∈ fresh, known s x) ∧ fresh.length ≤ i ∧ i ≤ 100 ∧ k = 100 - i) 100
    (Start.of [0, 3, 4, 5] [] (by simp)) ⟨0, none, [], rfl, rfl, good_none, by simp, Nat.le_refl _, by omega, rfl⟩ ?_
  rintro k fr σ ⟨i, s, fresh, rfl, rfl, hs, hf, hfl, hi, rfl⟩
  refine W.ite (fun c1 => ?_) (fun c1 => ?_)
  · have hil : i < l.length := by have := of_decide_eq_true c1; omega
    repeat (first | refine W.ite_t rfl ?_ | refine W.ite_f rfl ?_ | refine W.ite_t c1 ?_)
    refine W.ite (fun c2 => ?_) (fun c2 => ?_)
    · have hi2 : i < 100 := by have := of_decide_eq_true c2; omega
      obtain ⟨⟨p, n⟩, hpn⟩ : ∃ x, l[i]? = some x := ⟨_, List.getElem?_eq_getElem hil⟩
      have at_ := At.of hpn
      have e0 : P0 l i = p := at_.e0
      have e1 : P1 l i = n := at_.e1
      repeat (first | refine W.need at_.ix ?_ | refine W.need at_.p0 ?_ | refine W.need at_.n0 ?_ | refine W.need at_.p1 ?_ | refine W.need at_.n1 ?_)
      by_cases hr : inR p n
      · cases hc : come s p n with
        | mk c s' =>
          have hne : s' = none → s = none := come_some_of hc
          have g' : GoodW s' := by have := come_good (p := p) hs hr.2.2; rw [hc] at this; exact this
          have key : CallOk Try.prog 8 (.ptr 0 0 :: [nI (P0 l i), nI (P1 l i)].map .d) (winS s) (fun v σ => v = ansC c ∧ σ = winS s') := by rw [e0, e1]; exact ok8e hs hr hc
          have hcode : 1 ≤ c ∧ c ≤ 3 := by have := comeV_code (get s p) n; rw [← come_fst, hc] at this; exact this
          have hfk : ∀ x ∈ fresh, known s' x := fun x hx => by have := known_keep p n (hf x hx); rw [hc] at this; exact this
          have hno : c = 1 → (p, n) ∉ fresh := fun h1 hx => by
            subst h1
            exact known_old (hf _ hx) hc rfl
          have hnew : c = 1 → known s' (p, n) := fun h1 => by subst h1; exact known_new hc
          clear hc hf hs
          refine winO (r := [nI (P0 l i), nI (P1 l i)]) (s' := s') rfl rfl key hne ?_
          have d1 : decide (c < 1) = false := decide_eq_false (by omega)
          have d2 : decide (c > 3) = false := decide_eq_false (by omega)
          repeat (first | refine W.ite_t rfl ?_ | refine W.ite_f rfl ?_ | refine W.ite_f d1 ?_ | refine W.ite_f d2 ?_)
          cases s' with
          | none =>
            refine W.loop (fun k fr σ => ∃ x : Nat, fr = [(0, slP l), (3, .ptr 0 0), (4, .vec 1 fresh.length), (5, .d (nI i)), (6, .d (nI c)), (45, .vec 1 fresh.length), (46, .d (nI fresh.length)), (47, .d (nI x))] ∧ σ = once none fresh ∧ x ≤ fresh.length ∧ k = fresh.length - x) fresh.length
              (Start.of [0, 3, 4, 5, 6, 45, 46, 47] [] (by simp)) ⟨0, rfl, by simp [once, winM], by omega, rfl⟩ ?_
            rintro k fr σ ⟨x, rfl, rfl, hx, rfl⟩
            refine W.ite (fun c3 => ?_) (fun c3 => ?_)
            · have hxl : x < fresh.length := by have := of_decide_eq_true c3; omega
              obtain ⟨⟨fp, fn⟩, hfx⟩ : ∃ y, fresh[x]? = some y := ⟨_, List.getElem?_eq_getElem hxl⟩
              have bt := At.of hfx
              have hmem : (fp, fn) ∈ fresh := List.mem_of_getElem? hfx
              have gx : IntKind.i64.wrap ((x : Int) + 1) = ((x + 1 : Nat) : Int) := by rw [wrap64 (by omega) (by omega)]; rfl
              refine W.need bt.ixT ?_
              refine W.need bt.n2T ?_
              refine W.need at_.ix ?_
              refine W.need at_.n2 ?_
              have hd : (Q0 fresh x == P0 l i && (Q1 fresh x == P1 l i && true)) = true → c = 1 → False := fun h h1 => by
                rw [bt.q0, bt.q1, e0, e1] at h
                simp only [Bool.and_true, Bool.and_eq_true, beq_iff_eq] at h
                refine hno h1 ?_
                rw [← h.1, ← h.2]
                exact hmem
              have step : ∀ {fr : Fr} {b : Blk}, fr.get 0 = slP l → fr.get 3 = .ptr 0 0 → fr.get 4 = .vec 1 fresh.length → fr.get 5 = .d (nI i) → fr.get 6 = .d (nI c) → fr.get 45 = .vec 1 fresh.length → fr.get 46 = .d (nI fresh.length) → fr.get 47 = .d (nI (IntKind.i64.wrap ((x : Int) + 1))) →
                  ∃ m fr' σ', m < fresh.length - x ∧ Trim 2 fr (once none fresh ++ [b]) fr' σ' ∧ ∃ x : Nat, fr' = [(0, slP l), (3, .ptr 0 0), (4, .vec 1 fresh.length), (5, .d (nI i)), (6, .d (nI c)), (45, .vec 1 fresh.length), (46, .d (nI fresh.length)), (47, .d (nI x))] ∧ σ' = once none fresh ∧ x ≤ fresh.length ∧ m = fresh.length - x := fun {fr b} h0 h3 h4 h5 h6 h45 h46 h47 => by
                rw [gx] at h47
                refine ⟨_, _, _, ?_, Trim.of [0, 3, 4, 5, 6, 45, 46, 47] [0, 1] (by decide) (by simp [once, winM]) (by intro j hj; have : j = 0 ∨ j = 1 := (by omega); rcases this with rfl | rfl <;> rfl), x + 1, ?_, rfl, by omega, rfl⟩
                · omega
                · simp only [keepFr, h0, h3, h4, h5, h6, h45, h46, h47]; rfl
              refine W.ite (fun c4 => ?_) (fun c4 => ?_)
              · have c4 : (Q0 fresh x == P0 l i && (Q1 fresh x == P1 l i && true)) = true := c4
                have hc1 : (c == 1) = false := by simpa using fun h1 => hd c4 h1
                repeat (first | refine W.ite_t rfl ?_ | refine W.ite_f rfl ?_ | refine W.ite_t c4 ?_ | refine W.ite_f hc1 ?_)
                exact W.ret (step rfl rfl rfl rfl rfl rfl rfl rfl)
              · repeat (first | refine W.ite_t rfl ?_ | refine W.ite_f rfl ?_ | refine W.ite_f c4 ?_)
                exact W.ret (step rfl rfl rfl rfl rfl rfl rfl rfl)
            · refine W.ret ?_
              refine W.ite (fun c5 => ?_) (fun c5 => ?_)
              · have hc1 : c = 1 := by simpa using c5
                refine W.need at_.ix ?_
                refine W.need at_.n2 ?_
                refine W.alt_l ?_
                refine W.need ⟨rfl, rfl, rfl, by omega, by omega, by intro c hc; simp at hc; rcases hc with rfl | rfl <;> rfl⟩ ?_
                have hst : ∀ {fr : Fr} {cs : List D}, cs = prs (fresh ++ [(p, n)]) → fr.get 0 = slP l → fr.get 3 = .ptr 0 0 → fr.get 4 = .vec 1 (fresh.length + 1) → fr.get 5 = .d (nI (IntKind.i64.wrap ((i : Int) + 1))) →
                    ∃ m fr' σ', m < 100 - i ∧ Trim 2 fr (winB 2 none :: .vec 2 (fresh.length + 1) cs :: winM none) fr' σ' ∧ ∃ (i : Nat) (s : Wn) (fresh : List (Int × Int)), fr' = [(0, slP l), (3, .ptr 0 0), (4, .vec 1 fresh.length), (5, .d (nI i))] ∧ σ' = once s fresh ∧ GoodW s ∧ (∀ x ∈ fresh, known s x) ∧ fresh.length ≤ i ∧ i ≤ 100 ∧ m = 100 - i := fun {fr cs} hcs h0 h3 h4 h5 => by
                  subst hcs
                  have := end3 (l := l) (fresh := fresh ++ [(p, n)]) (fr := fr) hi2 g' (fun x hx => by
                    rcases List.mem_append.1 hx with hx | hx
                    · exact hfk x hx
                    · obtain rfl : x = (p, n) := by simpa using hx
                      exact hnew hc1) (by simp; omega) h0 h3 (by rw [h4]; simp) h5
                  have hl : (fresh ++ [(p, n)]).length = fresh.length + 1 := by simp
                  unfold once at this
                  rw [hl] at this
                  exact this
                refine W.ret (hst (cs := prs fresh ++ [nI (P0 l i), nI (P1 l i)]) ?_ rfl rfl rfl rfl)
                rw [e0, e1, prs_append]
                rfl
              · exact W.ret (end3 hi2 g' hfk (by omega) rfl rfl rfl rfl)
          | some t =>
            refine W.loop (fun k fr σ => ∃ x : Nat, fr = [(0, slP l), (3, .ptr 0 0), (4, .vec 1 fresh.length), (5, .d (nI i)), (6, .d (nI c)), (45, .vec 1 fresh.length), (46, .d (nI fresh.length)), (47, .d (nI x))] ∧ σ = once (some t) fresh ∧ x ≤ fresh.length ∧ k = fresh.length - x) fresh.length
              (Start.of [0, 3, 4, 5, 6, 45, 46, 47] [] (by simp)) ⟨0, rfl, by simp [once, winM], by omega, rfl⟩ ?_
            rintro k fr σ ⟨x, rfl, rfl, hx, rfl⟩
            refine W.ite (fun c3 => ?_) (fun c3 => ?_)
            · have hxl : x < fresh.length := by have := of_decide_eq_true c3; omega
              obtain ⟨⟨fp, fn⟩, hfx⟩ : ∃ y, fresh[x]? = some y := ⟨_, List.getElem?_eq_getElem hxl⟩
              have bt := At.of hfx
              have hmem : (fp, fn) ∈ fresh := List.mem_of_getElem? hfx
              have gx : IntKind.i64.wrap ((x : Int) + 1) = ((x + 1 : Nat) : Int) := by rw [wrap64 (by omega) (by omega)]; rfl
              refine W.need bt.ixT ?_
              refine W.need bt.n2T ?_
              refine W.need at_.ix ?_
              refine W.need at_.n2 ?_
              have hd : (Q0 fresh x == P0 l i && (Q1 fresh x == P1 l i && true)) = true → c = 1 → False := fun h h1 => by
                rw [bt.q0, bt.q1, e0, e1] at h
                simp only [Bool.and_true, Bool.and_eq_true, beq_iff_eq] at h
                refine hno h1 ?_
                rw [← h.1, ← h.2]
                exact hmem
              have step : ∀ {fr : Fr} {b : Blk}, fr.get 0 = slP l → fr.get 3 = .ptr 0 0 → fr.get 4 = .vec 1 fresh.length → fr.get 5 = .d (nI i) → fr.get 6 = .d (nI c) → fr.get 45 = .vec 1 fresh.length → fr.get 46 = .d (nI fresh.length) → fr.get 47 = .d (nI (IntKind.i64.wrap ((x : Int) + 1))) →
                  ∃ m fr' σ', m < fresh.length - x ∧ Trim 3 fr (once (some t) fresh ++ [b]) fr' σ' ∧ ∃ x : Nat, fr' = [(0, slP l), (3, .ptr 0 0), (4, .vec 1 fresh.length), (5, .d (nI i)), (6, .d (nI c)), (45, .vec 1 fresh.length), (46, .d (nI fresh.length)), (47, .d (nI x))] ∧ σ' = once (some t) fresh ∧ x ≤ fresh.length ∧ m = fresh.length - x := fun {fr b} h0 h3 h4 h5 h6 h45 h46 h47 => by
                rw [gx] at h47
                refine ⟨_, _, _, ?_, Trim.of [0, 3, 4, 5, 6, 45, 46, 47] [0, 1, 2] (by decide) (by simp [once, winM]) (by intro j hj; have : j = 0 ∨ j = 1 ∨ j = 2 := (by omega); rcases this with rfl | rfl | rfl <;> rfl), x + 1, ?_, rfl, by omega, rfl⟩
                · omega
                · simp only [keepFr, h0, h3, h4, h5, h6, h45, h46, h47]; rfl
              refine W.ite (fun c4 => ?_) (fun c4 => ?_)
              · have c4 : (Q0 fresh x == P0 l i && (Q1 fresh x == P1 l i && true)) = true := c4
                have hc1 : (c == 1) = false := by simpa using fun h1 => hd c4 h1
                repeat (first | refine W.ite_t rfl ?_ | refine W.ite_f rfl ?_ | refine W.ite_t c4 ?_ | refine W.ite_f hc1 ?_)
                exact W.ret (step rfl rfl rfl rfl rfl rfl rfl rfl)
              · repeat (first | refine W.ite_t rfl ?_ | refine W.ite_f rfl ?_ | refine W.ite_f c4 ?_)
                exact W.ret (step rfl rfl rfl rfl rfl rfl rfl rfl)
            · refine W.ret ?_
              refine W.ite (fun c5 => ?_) (fun c5 => ?_)
              · have hc1 : c = 1 := by simpa using c5
                refine W.need at_.ix ?_
                refine W.need at_.n2 ?_
                refine W.alt_l ?_
                refine W.need ⟨rfl, rfl, rfl, by omega, by omega, by intro c hc; simp at hc; rcases hc with rfl | rfl <;> rfl⟩ ?_
                have hst : ∀ {fr : Fr} {cs : List D}, cs = prs (fresh ++ [(p, n)]) → fr.get 0 = slP l → fr.get 3 = .ptr 0 0 → fr.get 4 = .vec 1 (fresh.length + 1) → fr.get 5 = .d (nI (IntKind.i64.wrap ((i : Int) + 1))) →
                    ∃ m fr' σ', m < 100 - i ∧ Trim 2 fr (winB 2 (some t) :: .vec 2 (fresh.length + 1) cs :: winM (some t)) fr' σ' ∧ ∃ (i : Nat) (s : Wn) (fresh : List (Int × Int)), fr' = [(0, slP l), (3, .ptr 0 0), (4, .vec 1 fresh.length), (5, .d (nI i))] ∧ σ' = once s fresh ∧ GoodW s ∧ (∀ x ∈ fresh, known s x) ∧ fresh.length ≤ i ∧ i ≤ 100 ∧ m = 100 - i := fun {fr cs} hcs h0 h3 h4 h5 => by
                  subst hcs
                  have := end3 (l := l) (fresh := fresh ++ [(p, n)]) (fr := fr) hi2 g' (fun x hx => by
                    rcases List.mem_append.1 hx with hx | hx
                    · exact hfk x hx
                    · obtain rfl : x = (p, n) := by simpa using hx
                      exact hnew hc1) (by simp; omega) h0 h3 (by rw [h4]; simp) h5
                  have hl : (fresh ++ [(p, n)]).length = fresh.length + 1 := by simp
                  unfold once at this
                  rw [hl] at this
                  exact this
                refine W.ret (hst (cs := prs fresh ++ [nI (P0 l i), nI (P1 l i)]) ?_ rfl rfl rfl rfl)
                rw [e0, e1, prs_append]
                rfl
              · exact W.ret (end3 hi2 g' hfk (by omega) rfl rfl rfl rfl)
      · have key : CallOk Try.prog 8 (.ptr 0 0 :: [nI (P0 l i), nI (P1 l i)].map .d) (winS s) (fun v σ => v = .tuple [.d (nI 0), .d badE] ∧ σ = winS s) := by rw [e0, e1]; exact ok8_bad s p n hr
        refine winO (r := [nI (P0 l i), nI (P1 l i)]) (s' := s) rfl rfl key (fun h => h) ?_
        repeat (first | refine W.ite_t rfl ?_ | refine W.ite_f rfl ?_)
        exact W.ret (end3 hi2 hs hf (by omega) rfl rfl rfl rfl)
    · refine W.ret ?_
      exact W.pure ok9 rfl rfl (W.ret (RetQ.pure rfl rfl))
  · repeat (first | refine W.ite_t rfl ?_ | refine W.ite_f rfl ?_ | refine W.ite_f c1 ?_)
    refine W.ret ?_
    exact W.pure ok9 rfl rfl (W.ret (RetQ.pure rfl rfl))
end Go.Proofs.Ytjibnmmpbpheiaa.Wi
