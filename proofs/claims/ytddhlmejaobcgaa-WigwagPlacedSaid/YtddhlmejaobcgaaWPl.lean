import Derived.Test.YtddhlmejaobcgaaRO
import Derived.Test.YtddhlmejaobcgaaCP
set_option maxRecDepth 100000
set_option linter.unusedVariables false
set_option linter.unusedSimpArgs false
/- The statement WigwagPlaced. -/
namespace Go.Proofs.Ytddhlmejaobcgaa.Pu
open Go Go.Am Co
def od4 : Ords := [(22, [0, 1, 2, 3, 4, 5, 6, 7, 8, 9, 10, 11, 12, 13, 14, 15, 16, 17, 19, 20, 21, 22, 23, 18, 1024, 25, 26, 27])]
theorem code4 : codeB Try.f4.ntmps od4 (match Try.f4.body with | some c => c | none => .skip) = true := by kernel_rfl
/-- Places as bytes. -/
def encZ (us : List Int) : List UInt8 := us.flatMap fun z => enc z.toNat
theorem encZ_take {us : List Int} {i : Nat} (h : i < us.length) : encZ (us.take (i + 1)) = encZ (us.take i) ++ enc (g us i).toNat := by
  unfold encZ
  rw [List.take_add_one, g_some h]
  simp
theorem encZ_ne {us : List Int} {i : Nat} (h : i < us.length) : encZ (us.take (i + 1)) ≠ [] := by
  rw [encZ_take h]
  intro e
  exact enc_ne _ (List.append_eq_nil_iff.1 e).2
theorem encZ_drop {us : List Int} {i : Nat} (h : i < us.length) : (encZ us).drop (encZ (us.take i)).length = enc (g us i).toNat ++ encZ (us.drop (i + 1)) := by
  have e : encZ us = encZ (us.take i) ++ (enc (g us i).toNat ++ encZ (us.drop (i + 1))) := by
    rw [← List.append_assoc, ← encZ_take h]
    unfold encZ
    rw [← List.flatMap_append, List.take_append_drop]
  rw [e, List.drop_left' rfl]
theorem encZ_len : ∀ {us : List Int}, (∀ y ∈ us, 0 ≤ y ∧ y < 18446744073709551616) → (encZ us).length ≤ 10 * us.length
  | [], _ => by simp [encZ]
  | z :: r, h => by
    have h1 := encZ_len (us := r) fun y hy => h y (by simp [hy])
    have h2 : (enc z.toNat).length ≤ 10 := enc_len10 (by have := h z (by simp); omega)
    show (enc z.toNat ++ encZ r).length ≤ _
    rw [List.length_append, List.length_cons]; omega
theorem flat_take' (us : List Int) (i : Nat) (h : i ≤ us.length) : (flat eC (us.take i)).length = i := by rw [fl_len, List.length_take]; omega
theorem flat_snoc {us : List Int} {i : Nat} (h : i < us.length) : flat eC (us.take i) ++ [uD (g us i)] = flat eC (us.take (i + 1)) := by
  rw [List.take_add_one, g_some h, flat_append]; rfl
theorem keepN (n : Nat) (q : Nat) (h : q < n + 1) : (List.range (n + 1))[q]? = some q := by simp [h]
theorem ixV {us : List Int} {X : Int} {i : Nat} (h : X = (i : Int)) (hi : i < us.length) : (0 : Int) ≤ X ∧ X < (us.length : Int) ∧ (flat eC us).take (us.length * 1) ≠ [] := by
  subst h; exact ix_row eC_len (by decide) hi
theorem rowE {us : List Int} {ks : List CK} {off n : Nat} {xs : List D} (e : Elem (flat eC us) ks off n xs) : Elem ((flat eC us).take (us.length * 1)) ks off n xs := Go.Am.Elem.row eC_len e
set_option maxHeartbeats 16000000 in
theorem ok4 (zs : List Int) (x : Int) (hzs : ∀ y ∈ zs, 0 ≤ y ∧ y < 18446744073709551616) (hx : 0 ≤ x ∧ x < 18446744073709551616) : Go.Am.Pure Try.prog 4 [slZ zs, .d (uD x)] (bI true) := by
  refine CallOk.of tysOk mixed od4 Try.func4 rfl rfl code4 ?_
  by_cases h30 : zs.length > 30
  · refine W.ite_t (decide_eq_true (by omega)) ?_
    refine W.need (show (0 : Int) ≤ 30 ∧ (30 : Int) ≤ (zs.length : Int) by omega) ?_
    have e30 : AV.d (.sl (30 - 0) (((flat eC zs).drop (0 * 1)).take ((30 - 0) * 1))) = slZ (zs.take 30) := by
      have h1 := flat_take eC_len 30 zs
      show AV.d (.sl 30 ((flat eC zs).take (30 * 1))) = AV.d (.sl (zs.take 30).length (flat eC (zs.take 30)))
      rw [h1, List.length_take, Nat.min_eq_left (by omega)]
    have hZ : ∀ y ∈ zs.take 30, 0 ≤ y ∧ y < 18446744073709551616 := fun y hy => hzs y (List.mem_of_mem_take hy)
    have hZl : (zs.take 30).length ≤ 30 := by rw [List.length_take]; omega
    have kS : CallOk Try.prog 17 [AV.d (.sl (30 - 0) (((flat eC zs).drop (0 * 1)).take ((30 - 0) * 1)))] [] (fun v s => ∃ us, v = slZ us ∧ s = [] ∧ Srt (zs.take 30) us) := by rw [e30]; exact ok17 (zs.take 30) (by omega)
    clear e30
    generalize zs.take 30 = Z at *
    refine W.callT [] (kS) (by decide) rfl rfl rfl rfl ?_
    rintro v σ ⟨us, rfl, rfl, hlu, hst, hemp, hsub, _⟩
    have hrg : ∀ y ∈ us, 0 ≤ y ∧ y < 18446744073709551616 := fun y hy => hZ y (hsub y hy)
    have hln := encZ_len hrg
    refine W.loop (fun k fr σ => ∃ i : Nat, fr = [(1, .d (uD x)), (5, .ptr 0 0), (6, slZ us), (20, slZ us), (21, .d (nI us.length)), (22, .d (nI i))] ∧ σ = wS (encZ (us.take i)) ∧ i ≤ us.length ∧ k = us.length - i) us.length
      (Start.of [1, 5, 6, 20, 21, 22] [] (by simp)) ⟨0, rfl, rfl, Nat.zero_le _, rfl⟩ ?_
    rintro k fr σ ⟨i, rfl, rfl, hi, rfl⟩
    by_cases hlt : i < us.length
    · have gi : IntKind.i64.wrap ((i : Int) + 1) = ((i + 1 : Nat) : Int) := by rw [wI (by omega)]; rfl
      have hgr := hrg (g us i) (g_mem hlt)
      have hpre := encZ_len (us := us.take i) fun y hy => hrg y (List.mem_of_mem_take hy)
      have hti : (us.take i).length ≤ us.length := by rw [List.length_take]; omega
      have kW := ok18 (encZ (us.take i)) (g us i).toNat (by omega) (by omega)
      rw [← encZ_take hlt] at kW
      have hne := encZ_ne hlt
      have eu : (((g us i).toNat : Nat) : Int) = g us i := by omega
      refine W.ite_t (decide_eq_true (by omega)) ?_
      refine W.need (ixD (i := i) rfl hlt) ?_
      refine W.ld (eD (i := i) rfl hlt) ?_
      rw [← eu]
      refine wr1 (r := [uI (g us i).toNat]) rfl kW (fun h => absurd h hne) ?_
      generalize hBB : encZ (us.take (i + 1)) = BB at *
      cases BB with
      | nil => exact absurd rfl hne
      | cons b0 r =>
        refine W.ret ⟨_, _, _, ?_, Trim.of [1, 5, 6, 20, 21, 22] [0, 1] (by decide) (by intro q hq; have : q = 0 ∨ q = 1 := (by simpa using hq); show q < 2; omega) (fun q hq => keepN 1 q (Nat.lt_of_lt_of_le hq (by show 1 ≤ 2; decide))), i + 1, ?_, ?_, by omega, rfl⟩
        · omega
        · rw [← gi]; rfl
        · rw [hBB]; rfl
    · have hlast : i = us.length := by omega
      subst hlast
      rw [List.take_length]
      refine W.ite_f (decide_eq_false (by omega)) ?_
      refine W.ret ?_
      refine wr1 (r := []) rfl (ok20 (encZ us)) id ?_
      obtain ⟨s, hs⟩ : ∃ s : ByteArray, s = ⟨(encZ us).toArray⟩ := ⟨_, rfl⟩
      have hsB : s.data.toList = encZ us := by rw [hs]
      have hsz : s.size = (encZ us).length := by rw [hs]; rfl
      rw [← hs]
      clear hs
      generalize hBB : wS (encZ us) = ω
      cases hE : encZ us with
      | nil =>
        rw [hE] at hBB
        subst hBB
        refine W.callF [] ([.var [.d (.lit (.slice none 0 0))], .var [.d (sD s), .d (nI 0), .d (.lit .nilIface)]]) (x2 := .ptr 1 0) (ok19 s) (by decide) rfl rfl rfl rfl rfl rfl ?_
        refine W.loop (fun k fr σ => ∃ i : Nat, fr = [(1, .d (uD x)), (6, slZ us), (9, .ptr 1 0), (10, .vec 2 i), (33, .d (nI us.length)), (34, .d (nI i))] ∧ σ = [.var [.d (.lit (.slice none 0 0))], .var [.d (sD s), .d (nI ((encZ (us.take i)).length : Nat)), .d (.lit .nilIface)], .vec 1 i (flat eC (us.take i))] ∧ i ≤ us.length ∧ k = us.length - i) us.length
          (Start.of [1, 6, 9, 10, 33, 34] [] (by simp)) ⟨0, rfl, rfl, Nat.zero_le _, rfl⟩ ?_
        rintro k fr σ ⟨i, rfl, rfl, hi, rfl⟩
        by_cases hlt : i < us.length
        · have gi : IntKind.i64.wrap ((i : Int) + 1) = ((i + 1 : Nat) : Int) := by rw [wI (by omega)]; rfl
          have hgr := hrg (g us i) (g_mem hlt)
          have hds : s.data.toList.drop (encZ (us.take i)).length = enc (g us i).toNat ++ encZ (us.drop (i + 1)) := by rw [hsB]; exact encZ_drop hlt
          have kN := ok21 s (encZ (us.take i)).length none (by omega)
          rw [readN_enc hds (by omega)] at kN
          have hnx : (encZ (us.take i)).length + (enc (g us i).toNat).length = (encZ (us.take (i + 1))).length := by rw [encZ_take hlt, List.length_append]
          dsimp only at kN
          rw [hnx] at kN
          have eu : (((g us i).toNat : Nat) : Int) = g us i := by omega
          refine W.ite_t (decide_eq_true (by omega)) ?_
          refine W.callF [1] ([.var [.d (.lit (.slice none 0 0))], .var [.d (sD s), .d (nI ((encZ (us.take (i + 1))).length : Nat)), .d (.lit .nilIface)], .vec 1 i (flat eC (us.take i))]) (x2 := .d (uI (g us i).toNat)) kN (by decide) rfl rfl rfl rfl rfl rfl ?_
          refine W.alt_l ?_
          refine W.need ⟨rfl, rfl, rfl, by omega, by omega, by intro c hc; obtain rfl := List.mem_singleton.1 hc; rfl⟩ ?_
          refine W.ret ⟨_, _, _, ?_, Trim.of [1, 6, 9, 10, 33, 34] [0, 1, 2] (by decide) (by simp) (keepN 2), i + 1, ?_, ?_, by omega, rfl⟩
          · omega
          · rw [← gi]; rfl
          · rw [← flat_snoc hlt, ← eu]; rfl
        · have hlast : i = us.length := by omega
          subst hlast
          rw [List.take_length]
          have kD := ok22 s (encZ us).length none
          rw [show doneE s (encZ us).length none = none by unfold doneE; rw [if_neg (by omega)]] at kD
          refine W.ite_f (decide_eq_false (by omega)) ?_
          refine W.ret ?_
          refine W.callF [1] ([.var [.d (.lit (.slice none 0 0))], .var [.d (sD s), .d (nI ((encZ us).length : Nat)), .d (.lit .nilIface)], .vec 1 us.length (flat eC us)]) (x2 := .d (.lit .nilIface)) kD (by decide) rfl rfl rfl rfl rfl rfl ?_
          have c1 : (!((us.length : Int) == (us.length : Int))) = false := by rw [beq_self_eq_true]; rfl
          repeat (first | refine W.ite_t rfl ?_ | refine W.ite_f rfl ?_ | refine W.ite_f c1 ?_)
          refine W.pure (ok23 5 3) rfl rfl ?_
          have c2 : (!(IntKind.u64.wrap (3 - 5) == 18446744073709551614)) = false := by decide
          repeat (first | refine W.ite_t rfl ?_ | refine W.ite_f rfl ?_ | refine W.ite_f c1 ?_ | refine W.ite_f c2 ?_)
          have kO := ok24 us x (by omega) hst
          have hfa : (flat eC us).take (us.length * 1) = flat eC us := flat_all eC_len us
          have kO' : Go.Am.Pure Try.prog 24 [.d (.sl us.length ((flat eC us).take (us.length * 1))), .d (uD x)] (.d (nI (ownF us x))) := by rw [hfa]; exact kO
          refine W.callF [] ([.var [.d (.lit (.slice none 0 0))], .var [.d (sD s), .d (nI ((encZ us).length : Nat)), .d (.lit .nilIface)], .vec 1 us.length (flat eC us)]) (x2 := .d (nI (ownF us x))) kO' (by decide) rfl rfl rfl rfl rfl rfl ?_
          refine W.loop (fun k fr σ => ∃ q : Nat, fr = [(1, .d (uD x)), (6, slZ us), (10, .vec 2 us.length), (11, .d (nI (ownF us x))), (60, .d (nI us.length)), (61, .d (nI q))] ∧ σ = [.var [.d (.lit (.slice none 0 0))], .var [.d (sD s), .d (nI ((encZ us).length : Nat)), .d (.lit .nilIface)], .vec 1 us.length (flat eC us)] ∧ q ≤ us.length ∧ k = us.length - q) us.length
            (Start.of [1, 6, 10, 11, 60, 61] [] (by simp)) ⟨0, rfl, rfl, Nat.zero_le _, rfl⟩ ?_
          rintro k fr σ ⟨q, rfl, rfl, hq, rfl⟩
          by_cases hqn : q < us.length
          · obtain ⟨o, ho, hon, hmin⟩ := own_min hst hrg hx hqn
            have gq : IntKind.i64.wrap ((q : Int) + 1) = ((q + 1 : Nat) : Int) := by rw [wI (by omega)]; rfl
            have d1 : (!(g us q == g us q)) = false := by rw [beq_self_eq_true]; rfl
            have d2 : decide (ownF us x ≥ 0) = true := decide_eq_true (by omega)
            have d3 : decide (IntKind.u64.wrap (g us q - x) < IntKind.u64.wrap (g us o - x)) = false := decide_eq_false hmin
            refine W.ite_t (decide_eq_true (by omega)) ?_
            refine W.need (ixV (i := q) rfl hqn) ?_
            refine W.ld (rowE (eD (i := q) rfl hqn)) ?_
            refine W.need (ixD (i := q) rfl hqn) ?_
            refine W.ld (eD (i := q) rfl hqn) ?_
            repeat (first | refine W.ite_f d1 ?_ | refine W.ite_t d2 ?_ | refine W.ite_f d3 ?_ | refine W.ite_t rfl ?_ | refine W.ite_f rfl ?_)
            refine W.need (ixV (i := q) rfl hqn) ?_
            repeat (first | refine W.ite_f d1 ?_ | refine W.ite_t d2 ?_ | refine W.ite_f d3 ?_ | refine W.ite_t rfl ?_ | refine W.ite_f rfl ?_)
            refine W.ld (rowE (eD (i := q) rfl hqn)) ?_
            repeat (first | refine W.ite_f d1 ?_ | refine W.ite_t d2 ?_ | refine W.ite_f d3 ?_ | refine W.ite_t rfl ?_ | refine W.ite_f rfl ?_)
            refine W.need (ixV ho hon) ?_
            repeat (first | refine W.ite_f d1 ?_ | refine W.ite_t d2 ?_ | refine W.ite_f d3 ?_ | refine W.ite_t rfl ?_ | refine W.ite_f rfl ?_)
            refine W.ld (rowE (eD ho hon)) ?_
            repeat (first | refine W.ite_f d1 ?_ | refine W.ite_t d2 ?_ | refine W.ite_f d3 ?_ | refine W.ite_t rfl ?_ | refine W.ite_f rfl ?_)
            refine W.pure (ok23 _ _) rfl rfl ?_
            repeat (first | refine W.ite_f d1 ?_ | refine W.ite_t d2 ?_ | refine W.ite_f d3 ?_ | refine W.ite_t rfl ?_ | refine W.ite_f rfl ?_)
            refine W.pure (ok23 _ _) rfl rfl ?_
            repeat (first | refine W.ite_f d1 ?_ | refine W.ite_t d2 ?_ | refine W.ite_f d3 ?_ | refine W.ite_t rfl ?_ | refine W.ite_f rfl ?_)
            refine W.ret ⟨_, _, _, ?_, Trim.of [1, 6, 10, 11, 60, 61] [0, 1, 2] (by decide) (by simp) (keepN 2), q + 1, ?_, rfl, by omega, rfl⟩
            · omega
            · rw [← gq]; rfl
          · refine W.ite_f (decide_eq_false (by omega)) ?_
            refine W.ret ?_
            refine W.pure kO rfl rfl ?_
            have d4 : (ownF us x == ownF us x) = true := beq_self_eq_true _
            repeat (first | refine W.ite_t d4 ?_ | refine W.ite_t rfl ?_ | refine W.ite_f rfl ?_)
            refine W.ret (RetQ.pure rfl (ret_bI ?_))
            have d5 : (decide (ownF us x ≥ 0) == decide ((us.length : Int) > 0)) = true := by
              by_cases h0 : us.length = 0
              · have e1 : ownF us x = -1 := by unfold ownF; rw [if_pos h0]
                rw [decide_eq_false (show ¬ ownF us x ≥ 0 by omega), decide_eq_false (show ¬ (us.length : Int) > 0 by omega)]; rfl
              · obtain ⟨o, ho, _⟩ := own_min hst hrg hx (k := 0) (by omega)
                rw [decide_eq_true (show ownF us x ≥ 0 by omega), decide_eq_true (show (us.length : Int) > 0 by omega)]; rfl
            first | exact d5 | (rw [d5]; rfl) | (rw [d4, d5]; rfl)
      | cons b0 r =>
        rw [hE] at hBB
        subst hBB
        refine W.callF [] ([.var [.vec 1 (r.length + 1)], .vec 1 (r.length + 1) (bc (b0 :: r)), .var [.d (sD s), .d (nI 0), .d (.lit .nilIface)]]) (x2 := .ptr 2 0) (ok19 s) (by decide) rfl rfl rfl rfl rfl rfl ?_
        refine W.loop (fun k fr σ => ∃ i : Nat, fr = [(1, .d (uD x)), (6, slZ us), (9, .ptr 2 0), (10, .vec 3 i), (33, .d (nI us.length)), (34, .d (nI i))] ∧ σ = [.var [.vec 1 (r.length + 1)], .vec 1 (r.length + 1) (bc (b0 :: r)), .var [.d (sD s), .d (nI ((encZ (us.take i)).length : Nat)), .d (.lit .nilIface)], .vec 1 i (flat eC (us.take i))] ∧ i ≤ us.length ∧ k = us.length - i) us.length
          (Start.of [1, 6, 9, 10, 33, 34] [] (by simp)) ⟨0, rfl, rfl, Nat.zero_le _, rfl⟩ ?_
        rintro k fr σ ⟨i, rfl, rfl, hi, rfl⟩
        by_cases hlt : i < us.length
        · have gi : IntKind.i64.wrap ((i : Int) + 1) = ((i + 1 : Nat) : Int) := by rw [wI (by omega)]; rfl
          have hgr := hrg (g us i) (g_mem hlt)
          have hds : s.data.toList.drop (encZ (us.take i)).length = enc (g us i).toNat ++ encZ (us.drop (i + 1)) := by rw [hsB]; exact encZ_drop hlt
          have kN := ok21 s (encZ (us.take i)).length none (by omega)
          rw [readN_enc hds (by omega)] at kN
          have hnx : (encZ (us.take i)).length + (enc (g us i).toNat).length = (encZ (us.take (i + 1))).length := by rw [encZ_take hlt, List.length_append]
          dsimp only at kN
          rw [hnx] at kN
          have eu : (((g us i).toNat : Nat) : Int) = g us i := by omega
          refine W.ite_t (decide_eq_true (by omega)) ?_
          refine W.callF [2] ([.var [.vec 1 (r.length + 1)], .vec 1 (r.length + 1) (bc (b0 :: r)), .var [.d (sD s), .d (nI ((encZ (us.take (i + 1))).length : Nat)), .d (.lit .nilIface)], .vec 1 i (flat eC (us.take i))]) (x2 := .d (uI (g us i).toNat)) kN (by decide) rfl rfl rfl rfl rfl rfl ?_
          refine W.alt_l ?_
          refine W.need ⟨rfl, rfl, rfl, by omega, by omega, by intro c hc; obtain rfl := List.mem_singleton.1 hc; rfl⟩ ?_
          refine W.ret ⟨_, _, _, ?_, Trim.of [1, 6, 9, 10, 33, 34] [0, 1, 2, 3] (by decide) (by simp) (keepN 3), i + 1, ?_, ?_, by omega, rfl⟩
          · omega
          · rw [← gi]; rfl
          · rw [← flat_snoc hlt, ← eu]; rfl
        · have hlast : i = us.length := by omega
          subst hlast
          rw [List.take_length]
          have kD := ok22 s (encZ us).length none
          rw [show doneE s (encZ us).length none = none by unfold doneE; rw [if_neg (by omega)]] at kD
          refine W.ite_f (decide_eq_false (by omega)) ?_
          refine W.ret ?_
          refine W.callF [2] ([.var [.vec 1 (r.length + 1)], .vec 1 (r.length + 1) (bc (b0 :: r)), .var [.d (sD s), .d (nI ((encZ us).length : Nat)), .d (.lit .nilIface)], .vec 1 us.length (flat eC us)]) (x2 := .d (.lit .nilIface)) kD (by decide) rfl rfl rfl rfl rfl rfl ?_
          have c1 : (!((us.length : Int) == (us.length : Int))) = false := by rw [beq_self_eq_true]; rfl
          repeat (first | refine W.ite_t rfl ?_ | refine W.ite_f rfl ?_ | refine W.ite_f c1 ?_)
          refine W.pure (ok23 5 3) rfl rfl ?_
          have c2 : (!(IntKind.u64.wrap (3 - 5) == 18446744073709551614)) = false := by decide
          repeat (first | refine W.ite_t rfl ?_ | refine W.ite_f rfl ?_ | refine W.ite_f c1 ?_ | refine W.ite_f c2 ?_)
          have kO := ok24 us x (by omega) hst
          have hfa : (flat eC us).take (us.length * 1) = flat eC us := flat_all eC_len us
          have kO' : Go.Am.Pure Try.prog 24 [.d (.sl us.length ((flat eC us).take (us.length * 1))), .d (uD x)] (.d (nI (ownF us x))) := by rw [hfa]; exact kO
          refine W.callF [] ([.var [.vec 1 (r.length + 1)], .vec 1 (r.length + 1) (bc (b0 :: r)), .var [.d (sD s), .d (nI ((encZ us).length : Nat)), .d (.lit .nilIface)], .vec 1 us.length (flat eC us)]) (x2 := .d (nI (ownF us x))) kO' (by decide) rfl rfl rfl rfl rfl rfl ?_
          refine W.loop (fun k fr σ => ∃ q : Nat, fr = [(1, .d (uD x)), (6, slZ us), (10, .vec 3 us.length), (11, .d (nI (ownF us x))), (60, .d (nI us.length)), (61, .d (nI q))] ∧ σ = [.var [.vec 1 (r.length + 1)], .vec 1 (r.length + 1) (bc (b0 :: r)), .var [.d (sD s), .d (nI ((encZ us).length : Nat)), .d (.lit .nilIface)], .vec 1 us.length (flat eC us)] ∧ q ≤ us.length ∧ k = us.length - q) us.length
            (Start.of [1, 6, 10, 11, 60, 61] [] (by simp)) ⟨0, rfl, rfl, Nat.zero_le _, rfl⟩ ?_
          rintro k fr σ ⟨q, rfl, rfl, hq, rfl⟩
          by_cases hqn : q < us.length
          · obtain ⟨o, ho, hon, hmin⟩ := own_min hst hrg hx hqn
            have gq : IntKind.i64.wrap ((q : Int) + 1) = ((q + 1 : Nat) : Int) := by rw [wI (by omega)]; rfl
            have d1 : (!(g us q == g us q)) = false := by rw [beq_self_eq_true]; rfl
            have d2 : decide (ownF us x ≥ 0) = true := decide_eq_true (by omega)
            have d3 : decide (IntKind.u64.wrap (g us q - x) < IntKind.u64.wrap (g us o - x)) = false := decide_eq_false hmin
            refine W.ite_t (decide_eq_true (by omega)) ?_
            refine W.need (ixV (i := q) rfl hqn) ?_
            refine W.ld (rowE (eD (i := q) rfl hqn)) ?_
            refine W.need (ixD (i := q) rfl hqn) ?_
            refine W.ld (eD (i := q) rfl hqn) ?_
            repeat (first | refine W.ite_f d1 ?_ | refine W.ite_t d2 ?_ | refine W.ite_f d3 ?_ | refine W.ite_t rfl ?_ | refine W.ite_f rfl ?_)
            refine W.need (ixV (i := q) rfl hqn) ?_
            repeat (first | refine W.ite_f d1 ?_ | refine W.ite_t d2 ?_ | refine W.ite_f d3 ?_ | refine W.ite_t rfl ?_ | refine W.ite_f rfl ?_)
            refine W.ld (rowE (eD (i := q) rfl hqn)) ?_
            repeat (first | refine W.ite_f d1 ?_ | refine W.ite_t d2 ?_ | refine W.ite_f d3 ?_ | refine W.ite_t rfl ?_ | refine W.ite_f rfl ?_)
            refine W.need (ixV ho hon) ?_
            repeat (first | refine W.ite_f d1 ?_ | refine W.ite_t d2 ?_ | refine W.ite_f d3 ?_ | refine W.ite_t rfl ?_ | refine W.ite_f rfl ?_)
            refine W.ld (rowE (eD ho hon)) ?_
            repeat (first | refine W.ite_f d1 ?_ | refine W.ite_t d2 ?_ | refine W.ite_f d3 ?_ | refine W.ite_t rfl ?_ | refine W.ite_f rfl ?_)
            refine W.pure (ok23 _ _) rfl rfl ?_
            repeat (first | refine W.ite_f d1 ?_ | refine W.ite_t d2 ?_ | refine W.ite_f d3 ?_ | refine W.ite_t rfl ?_ | refine W.ite_f rfl ?_)
            refine W.pure (ok23 _ _) rfl rfl ?_
            repeat (first | refine W.ite_f d1 ?_ | refine W.ite_t d2 ?_ | refine W.ite_f d3 ?_ | refine W.ite_t rfl ?_ | refine W.ite_f rfl ?_)
            refine W.ret ⟨_, _, _, ?_, Trim.of [1, 6, 10, 11, 60, 61] [0, 1, 2, 3] (by decide) (by simp) (keepN 3), q + 1, ?_, rfl, by omega, rfl⟩
            · omega
            · rw [← gq]; rfl
          · refine W.ite_f (decide_eq_false (by omega)) ?_
            refine W.ret ?_
            refine W.pure kO rfl rfl ?_
            have d4 : (ownF us x == ownF us x) = true := beq_self_eq_true _
            repeat (first | refine W.ite_t d4 ?_ | refine W.ite_t rfl ?_ | refine W.ite_f rfl ?_)
            refine W.ret (RetQ.pure rfl (ret_bI ?_))
            have d5 : (decide (ownF us x ≥ 0) == decide ((us.length : Int) > 0)) = true := by
              by_cases h0 : us.length = 0
              · have e1 : ownF us x = -1 := by unfold ownF; rw [if_pos h0]
                rw [decide_eq_false (show ¬ ownF us x ≥ 0 by omega), decide_eq_false (show ¬ (us.length : Int) > 0 by omega)]; rfl
              · obtain ⟨o, ho, _⟩ := own_min hst hrg hx (k := 0) (by omega)
                rw [decide_eq_true (show ownF us x ≥ 0 by omega), decide_eq_true (show (us.length : Int) > 0 by omega)]; rfl
            first | exact d5 | (rw [d5]; rfl) | (rw [d4, d5]; rfl)
  · refine W.ite_f (decide_eq_false (by omega)) ?_
    have hZ := hzs
    have hZl : zs.length ≤ 30 := by omega
    have kS := ok17 zs (by omega)
    refine W.callT [] kS (by decide) rfl rfl rfl rfl ?_
    rintro v σ ⟨us, rfl, rfl, hlu, hst, hemp, hsub, _⟩
    have hrg : ∀ y ∈ us, 0 ≤ y ∧ y < 18446744073709551616 := fun y hy => hZ y (hsub y hy)
    have hln := encZ_len hrg
    refine W.loop (fun k fr σ => ∃ i : Nat, fr = [(1, .d (uD x)), (5, .ptr 0 0), (6, slZ us), (20, slZ us), (21, .d (nI us.length)), (22, .d (nI i))] ∧ σ = wS (encZ (us.take i)) ∧ i ≤ us.length ∧ k = us.length - i) us.length
      (Start.of [1, 5, 6, 20, 21, 22] [] (by simp)) ⟨0, rfl, rfl, Nat.zero_le _, rfl⟩ ?_
    rintro k fr σ ⟨i, rfl, rfl, hi, rfl⟩
    by_cases hlt : i < us.length
    · have gi : IntKind.i64.wrap ((i : Int) + 1) = ((i + 1 : Nat) : Int) := by rw [wI (by omega)]; rfl
      have hgr := hrg (g us i) (g_mem hlt)
      have hpre := encZ_len (us := us.take i) fun y hy => hrg y (List.mem_of_mem_take hy)
      have hti : (us.take i).length ≤ us.length := by rw [List.length_take]; omega
      have kW := ok18 (encZ (us.take i)) (g us i).toNat (by omega) (by omega)
      rw [← encZ_take hlt] at kW
      have hne := encZ_ne hlt
      have eu : (((g us i).toNat : Nat) : Int) = g us i := by omega
      refine W.ite_t (decide_eq_true (by omega)) ?_
      refine W.need (ixD (i := i) rfl hlt) ?_
      refine W.ld (eD (i := i) rfl hlt) ?_
      rw [← eu]
      refine wr1 (r := [uI (g us i).toNat]) rfl kW (fun h => absurd h hne) ?_
      generalize hBB : encZ (us.take (i + 1)) = BB at *
      cases BB with
      | nil => exact absurd rfl hne
      | cons b0 r =>
        refine W.ret ⟨_, _, _, ?_, Trim.of [1, 5, 6, 20, 21, 22] [0, 1] (by decide) (by intro q hq; have : q = 0 ∨ q = 1 := (by simpa using hq); show q < 2; omega) (fun q hq => keepN 1 q (Nat.lt_of_lt_of_le hq (by show 1 ≤ 2; decide))), i + 1, ?_, ?_, by omega, rfl⟩
        · omega
        · rw [← gi]; rfl
        · rw [hBB]; rfl
    · have hlast : i = us.length := by omega
      subst hlast
      rw [List.take_length]
      refine W.ite_f (decide_eq_false (by omega)) ?_
      refine W.ret ?_
      refine wr1 (r := []) rfl (ok20 (encZ us)) id ?_
      obtain ⟨s, hs⟩ : ∃ s : ByteArray, s = ⟨(encZ us).toArray⟩ := ⟨_, rfl⟩
      have hsB : s.data.toList = encZ us := by rw [hs]
      have hsz : s.size = (encZ us).length := by rw [hs]; rfl
      rw [← hs]
      clear hs
      generalize hBB : wS (encZ us) = ω
      cases hE : encZ us with
      | nil =>
        rw [hE] at hBB
        subst hBB
        refine W.callF [] ([.var [.d (.lit (.slice none 0 0))], .var [.d (sD s), .d (nI 0), .d (.lit .nilIface)]]) (x2 := .ptr 1 0) (ok19 s) (by decide) rfl rfl rfl rfl rfl rfl ?_
        refine W.loop (fun k fr σ => ∃ i : Nat, fr = [(1, .d (uD x)), (6, slZ us), (9, .ptr 1 0), (10, .vec 2 i), (33, .d (nI us.length)), (34, .d (nI i))] ∧ σ = [.var [.d (.lit (.slice none 0 0))], .var [.d (sD s), .d (nI ((encZ (us.take i)).length : Nat)), .d (.lit .nilIface)], .vec 1 i (flat eC (us.take i))] ∧ i ≤ us.length ∧ k = us.length - i) us.length
          (Start.of [1, 6, 9, 10, 33, 34] [] (by simp)) ⟨0, rfl, rfl, Nat.zero_le _, rfl⟩ ?_
        rintro k fr σ ⟨i, rfl, rfl, hi, rfl⟩
        by_cases hlt : i < us.length
        · have gi : IntKind.i64.wrap ((i : Int) + 1) = ((i + 1 : Nat) : Int) := by rw [wI (by omega)]; rfl
          have hgr := hrg (g us i) (g_mem hlt)
          have hds : s.data.toList.drop (encZ (us.take i)).length = enc (g us i).toNat ++ encZ (us.drop (i + 1)) := by rw [hsB]; exact encZ_drop hlt
          have kN := ok21 s (encZ (us.take i)).length none (by omega)
          rw [readN_enc hds (by omega)] at kN
          have hnx : (encZ (us.take i)).length + (enc (g us i).toNat).length = (encZ (us.take (i + 1))).length := by rw [encZ_take hlt, List.length_append]
          dsimp only at kN
          rw [hnx] at kN
          have eu : (((g us i).toNat : Nat) : Int) = g us i := by omega
          refine W.ite_t (decide_eq_true (by omega)) ?_
          refine W.callF [1] ([.var [.d (.lit (.slice none 0 0))], .var [.d (sD s), .d (nI ((encZ (us.take (i + 1))).length : Nat)), .d (.lit .nilIface)], .vec 1 i (flat eC (us.take i))]) (x2 := .d (uI (g us i).toNat)) kN (by decide) rfl rfl rfl rfl rfl rfl ?_
          refine W.alt_l ?_
          refine W.need ⟨rfl, rfl, rfl, by omega, by omega, by intro c hc; obtain rfl := List.mem_singleton.1 hc; rfl⟩ ?_
          refine W.ret ⟨_, _, _, ?_, Trim.of [1, 6, 9, 10, 33, 34] [0, 1, 2] (by decide) (by simp) (keepN 2), i + 1, ?_, ?_, by omega, rfl⟩
          · omega
          · rw [← gi]; rfl
          · rw [← flat_snoc hlt, ← eu]; rfl
        · have hlast : i = us.length := by omega
          subst hlast
          rw [List.take_length]
          have kD := ok22 s (encZ us).length none
          rw [show doneE s (encZ us).length none = none by unfold doneE; rw [if_neg (by omega)]] at kD
          refine W.ite_f (decide_eq_false (by omega)) ?_
          refine W.ret ?_
          refine W.callF [1] ([.var [.d (.lit (.slice none 0 0))], .var [.d (sD s), .d (nI ((encZ us).length : Nat)), .d (.lit .nilIface)], .vec 1 us.length (flat eC us)]) (x2 := .d (.lit .nilIface)) kD (by decide) rfl rfl rfl rfl rfl rfl ?_
          have c1 : (!((us.length : Int) == (us.length : Int))) = false := by rw [beq_self_eq_true]; rfl
          repeat (first | refine W.ite_t rfl ?_ | refine W.ite_f rfl ?_ | refine W.ite_f c1 ?_)
          refine W.pure (ok23 5 3) rfl rfl ?_
          have c2 : (!(IntKind.u64.wrap (3 - 5) == 18446744073709551614)) = false := by decide
          repeat (first | refine W.ite_t rfl ?_ | refine W.ite_f rfl ?_ | refine W.ite_f c1 ?_ | refine W.ite_f c2 ?_)
          have kO := ok24 us x (by omega) hst
          have hfa : (flat eC us).take (us.length * 1) = flat eC us := flat_all eC_len us
          have kO' : Go.Am.Pure Try.prog 24 [.d (.sl us.length ((flat eC us).take (us.length * 1))), .d (uD x)] (.d (nI (ownF us x))) := by rw [hfa]; exact kO
          refine W.callF [] ([.var [.d (.lit (.slice none 0 0))], .var [.d (sD s), .d (nI ((encZ us).length : Nat)), .d (.lit .nilIface)], .vec 1 us.length (flat eC us)]) (x2 := .d (nI (ownF us x))) kO' (by decide) rfl rfl rfl rfl rfl rfl ?_
          refine W.loop (fun k fr σ => ∃ q : Nat, fr = [(1, .d (uD x)), (6, slZ us), (10, .vec 2 us.length), (11, .d (nI (ownF us x))), (60, .d (nI us.length)), (61, .d (nI q))] ∧ σ = [.var [.d (.lit (.slice none 0 0))], .var [.d (sD s), .d (nI ((encZ us).length : Nat)), .d (.lit .nilIface)], .vec 1 us.length (flat eC us)] ∧ q ≤ us.length ∧ k = us.length - q) us.length
            (Start.of [1, 6, 10, 11, 60, 61] [] (by simp)) ⟨0, rfl, rfl, Nat.zero_le _, rfl⟩ ?_
          rintro k fr σ ⟨q, rfl, rfl, hq, rfl⟩
          by_cases hqn : q < us.length
          · obtain ⟨o, ho, hon, hmin⟩ := own_min hst hrg hx hqn
            have gq : IntKind.i64.wrap ((q : Int) + 1) = ((q + 1 : Nat) : Int) := by rw [wI (by omega)]; rfl
            have d1 : (!(g us q == g us q)) = false := by rw [beq_self_eq_true]; rfl
            have d2 : decide (ownF us x ≥ 0) = true := decide_eq_true (by omega)
            have d3 : decide (IntKind.u64.wrap (g us q - x) < IntKind.u64.wrap (g us o - x)) = false := decide_eq_false hmin
            refine W.ite_t (decide_eq_true (by omega)) ?_
            refine W.need (ixV (i := q) rfl hqn) ?_
            refine W.ld (rowE (eD (i := q) rfl hqn)) ?_
            refine W.need (ixD (i := q) rfl hqn) ?_
            refine W.ld (eD (i := q) rfl hqn) ?_
            repeat (first | refine W.ite_f d1 ?_ | refine W.ite_t d2 ?_ | refine W.ite_f d3 ?_ | refine W.ite_t rfl ?_ | refine W.ite_f rfl ?_)
            refine W.need (ixV (i := q) rfl hqn) ?_
            repeat (first | refine W.ite_f d1 ?_ | refine W.ite_t d2 ?_ | refine W.ite_f d3 ?_ | refine W.ite_t rfl ?_ | refine W.ite_f rfl ?_)
            refine W.ld (rowE (eD (i := q) rfl hqn)) ?_
            repeat (first | refine W.ite_f d1 ?_ | refine W.ite_t d2 ?_ | refine W.ite_f d3 ?_ | refine W.ite_t rfl ?_ | refine W.ite_f rfl ?_)
            refine W.need (ixV ho hon) ?_
            repeat (first | refine W.ite_f d1 ?_ | refine W.ite_t d2 ?_ | refine W.ite_f d3 ?_ | refine W.ite_t rfl ?_ | refine W.ite_f rfl ?_)
            refine W.ld (rowE (eD ho hon)) ?_
            repeat (first | refine W.ite_f d1 ?_ | refine W.ite_t d2 ?_ | refine W.ite_f d3 ?_ | refine W.ite_t rfl ?_ | refine W.ite_f rfl ?_)
            refine W.pure (ok23 _ _) rfl rfl ?_
            repeat (first | refine W.ite_f d1 ?_ | refine W.ite_t d2 ?_ | refine W.ite_f d3 ?_ | refine W.ite_t rfl ?_ | refine W.ite_f rfl ?_)
            refine W.pure (ok23 _ _) rfl rfl ?_
            repeat (first | refine W.ite_f d1 ?_ | refine W.ite_t d2 ?_ | refine W.ite_f d3 ?_ | refine W.ite_t rfl ?_ | refine W.ite_f rfl ?_)
            refine W.ret ⟨_, _, _, ?_, Trim.of [1, 6, 10, 11, 60, 61] [0, 1, 2] (by decide) (by simp) (keepN 2), q + 1, ?_, rfl, by omega, rfl⟩
            · omega
            · rw [← gq]; rfl
          · refine W.ite_f (decide_eq_false (by omega)) ?_
            refine W.ret ?_
            refine W.pure kO rfl rfl ?_
            have d4 : (ownF us x == ownF us x) = true := beq_self_eq_true _
            repeat (first | refine W.ite_t d4 ?_ | refine W.ite_t rfl ?_ | refine W.ite_f rfl ?_)
            refine W.ret (RetQ.pure rfl (ret_bI ?_))
            have d5 : (decide (ownF us x ≥ 0) == decide ((us.length : Int) > 0)) = true := by
              by_cases h0 : us.length = 0
              · have e1 : ownF us x = -1 := by unfold ownF; rw [if_pos h0]
                rw [decide_eq_false (show ¬ ownF us x ≥ 0 by omega), decide_eq_false (show ¬ (us.length : Int) > 0 by omega)]; rfl
              · obtain ⟨o, ho, _⟩ := own_min hst hrg hx (k := 0) (by omega)
                rw [decide_eq_true (show ownF us x ≥ 0 by omega), decide_eq_true (show (us.length : Int) > 0 by omega)]; rfl
            first | exact d5 | (rw [d5]; rfl) | (rw [d4, d5]; rfl)
      | cons b0 r =>
        rw [hE] at hBB
        subst hBB
        refine W.callF [] ([.var [.vec 1 (r.length + 1)], .vec 1 (r.length + 1) (bc (b0 :: r)), .var [.d (sD s), .d (nI 0), .d (.lit .nilIface)]]) (x2 := .ptr 2 0) (ok19 s) (by decide) rfl rfl rfl rfl rfl rfl ?_
        refine W.loop (fun k fr σ => ∃ i : Nat, fr = [(1, .d (uD x)), (6, slZ us), (9, .ptr 2 0), (10, .vec 3 i), (33, .d (nI us.length)), (34, .d (nI i))] ∧ σ = [.var [.vec 1 (r.length + 1)], .vec 1 (r.length + 1) (bc (b0 :: r)), .var [.d (sD s), .d (nI ((encZ (us.take i)).length : Nat)), .d (.lit .nilIface)], .vec 1 i (flat eC (us.take i))] ∧ i ≤ us.length ∧ k = us.length - i) us.length
          (Start.of [1, 6, 9, 10, 33, 34] [] (by simp)) ⟨0, rfl, rfl, Nat.zero_le _, rfl⟩ ?_
        rintro k fr σ ⟨i, rfl, rfl, hi, rfl⟩
        by_cases hlt : i < us.length
        · have gi : IntKind.i64.wrap ((i : Int) + 1) = ((i + 1 : Nat) : Int) := by rw [wI (by omega)]; rfl
          have hgr := hrg (g us i) (g_mem hlt)
          have hds : s.data.toList.drop (encZ (us.take i)).length = enc (g us i).toNat ++ encZ (us.drop (i + 1)) := by rw [hsB]; exact encZ_drop hlt
          have kN := ok21 s (encZ (us.take i)).length none (by omega)
          rw [readN_enc hds (by omega)] at kN
          have hnx : (encZ (us.take i)).length + (enc (g us i).toNat).length = (encZ (us.take (i + 1))).length := by rw [encZ_take hlt, List.length_append]
          dsimp only at kN
          rw [hnx] at kN
          have eu : (((g us i).toNat : Nat) : Int) = g us i := by omega
          refine W.ite_t (decide_eq_true (by omega)) ?_
          refine W.callF [2] ([.var [.vec 1 (r.length + 1)], .vec 1 (r.length + 1) (bc (b0 :: r)), .var [.d (sD s), .d (nI ((encZ (us.take (i + 1))).length : Nat)), .d (.lit .nilIface)], .vec 1 i (flat eC (us.take i))]) (x2 := .d (uI (g us i).toNat)) kN (by decide) rfl rfl rfl rfl rfl rfl ?_
          refine W.alt_l ?_
          refine W.need ⟨rfl, rfl, rfl, by omega, by omega, by intro c hc; obtain rfl := List.mem_singleton.1 hc; rfl⟩ ?_
          refine W.ret ⟨_, _, _, ?_, Trim.of [1, 6, 9, 10, 33, 34] [0, 1, 2, 3] (by decide) (by simp) (keepN 3), i + 1, ?_, ?_, by omega, rfl⟩
          · omega
          · rw [← gi]; rfl
          · rw [← flat_snoc hlt, ← eu]; rfl
        · have hlast : i = us.length := by omega
          subst hlast
          rw [List.take_length]
          have kD := ok22 s (encZ us).length none
          rw [show doneE s (encZ us).length none = none by unfold doneE; rw [if_neg (by omega)]] at kD
          refine W.ite_f (decide_eq_false (by omega)) ?_
          refine W.ret ?_
          refine W.callF [2] ([.var [.vec 1 (r.length + 1)], .vec 1 (r.length + 1) (bc (b0 :: r)), .var [.d (sD s), .d (nI ((encZ us).length : Nat)), .d (.lit .nilIface)], .vec 1 us.length (flat eC us)]) (x2 := .d (.lit .nilIface)) kD (by decide) rfl rfl rfl rfl rfl rfl ?_
          have c1 : (!((us.length : Int) == (us.length : Int))) = false := by rw [beq_self_eq_true]; rfl
          repeat (first | refine W.ite_t rfl ?_ | refine W.ite_f rfl ?_ | refine W.ite_f c1 ?_)
          refine W.pure (ok23 5 3) rfl rfl ?_
          have c2 : (!(IntKind.u64.wrap (3 - 5) == 18446744073709551614)) = false := by decide
          repeat (first | refine W.ite_t rfl ?_ | refine W.ite_f rfl ?_ | refine W.ite_f c1 ?_ | refine W.ite_f c2 ?_)
          have kO := ok24 us x (by omega) hst
          have hfa : (flat eC us).take (us.length * 1) = flat eC us := flat_all eC_len us
          have kO' : Go.Am.Pure Try.prog 24 [.d (.sl us.length ((flat eC us).take (us.length * 1))), .d (uD x)] (.d (nI (ownF us x))) := by rw [hfa]; exact kO
          refine W.callF [] ([.var [.vec 1 (r.length + 1)], .vec 1 (r.length + 1) (bc (b0 :: r)), .var [.d (sD s), .d (nI ((encZ us).length : Nat)), .d (.lit .nilIface)], .vec 1 us.length (flat eC us)]) (x2 := .d (nI (ownF us x))) kO' (by decide) rfl rfl rfl rfl rfl rfl ?_
          refine W.loop (fun k fr σ => ∃ q : Nat, fr = [(1, .d (uD x)), (6, slZ us), (10, .vec 3 us.length), (11, .d (nI (ownF us x))), (60, .d (nI us.length)), (61, .d (nI q))] ∧ σ = [.var [.vec 1 (r.length + 1)], .vec 1 (r.length + 1) (bc (b0 :: r)), .var [.d (sD s), .d (nI ((encZ us).length : Nat)), .d (.lit .nilIface)], .vec 1 us.length (flat eC us)] ∧ q ≤ us.length ∧ k = us.length - q) us.length
            (Start.of [1, 6, 10, 11, 60, 61] [] (by simp)) ⟨0, rfl, rfl, Nat.zero_le _, rfl⟩ ?_
          rintro k fr σ ⟨q, rfl, rfl, hq, rfl⟩
          by_cases hqn : q < us.length
          · obtain ⟨o, ho, hon, hmin⟩ := own_min hst hrg hx hqn
            have gq : IntKind.i64.wrap ((q : Int) + 1) = ((q + 1 : Nat) : Int) := by rw [wI (by omega)]; rfl
            have d1 : (!(g us q == g us q)) = false := by rw [beq_self_eq_true]; rfl
            have d2 : decide (ownF us x ≥ 0) = true := decide_eq_true (by omega)
            have d3 : decide (IntKind.u64.wrap (g us q - x) < IntKind.u64.wrap (g us o - x)) = false := decide_eq_false hmin
            refine W.ite_t (decide_eq_true (by omega)) ?_
            refine W.need (ixV (i := q) rfl hqn) ?_
            refine W.ld (rowE (eD (i := q) rfl hqn)) ?_
            refine W.need (ixD (i := q) rfl hqn) ?_
            refine W.ld (eD (i := q) rfl hqn) ?_
            repeat (first | refine W.ite_f d1 ?_ | refine W.ite_t d2 ?_ | refine W.ite_f d3 ?_ | refine W.ite_t rfl ?_ | refine W.ite_f rfl ?_)
            refine W.need (ixV (i := q) rfl hqn) ?_
            repeat (first | refine W.ite_f d1 ?_ | refine W.ite_t d2 ?_ | refine W.ite_f d3 ?_ | refine W.ite_t rfl ?_ | refine W.ite_f rfl ?_)
            refine W.ld (rowE (eD (i := q) rfl hqn)) ?_
            repeat (first | refine W.ite_f d1 ?_ | refine W.ite_t d2 ?_ | refine W.ite_f d3 ?_ | refine W.ite_t rfl ?_ | refine W.ite_f rfl ?_)
            refine W.need (ixV ho hon) ?_
            repeat (first | refine W.ite_f d1 ?_ | refine W.ite_t d2 ?_ | refine W.ite_f d3 ?_ | refine W.ite_t rfl ?_ | refine W.ite_f rfl ?_)
            refine W.ld (rowE (eD ho hon)) ?_
            repeat (first | refine W.ite_f d1 ?_ | refine W.ite_t d2 ?_ | refine W.ite_f d3 ?_ | refine W.ite_t rfl ?_ | refine W.ite_f rfl ?_)
            refine W.pure (ok23 _ _) rfl rfl ?_
            repeat (first | refine W.ite_f d1 ?_ | refine W.ite_t d2 ?_ | refine W.ite_f d3 ?_ | refine W.ite_t rfl ?_ | refine W.ite_f rfl ?_)
            refine W.pure (ok23 _ _) rfl rfl ?_
            repeat (first | refine W.ite_f d1 ?_ | refine W.ite_t d2 ?_ | refine W.ite_f d3 ?_ | refine W.ite_t rfl ?_ | refine W.ite_f rfl ?_)
            refine W.ret ⟨_, _, _, ?_, Trim.of [1, 6, 10, 11, 60, 61] [0, 1, 2, 3] (by decide) (by simp) (keepN 3), q + 1, ?_, rfl, by omega, rfl⟩
            · omega
            · rw [← gq]; rfl
          · refine W.ite_f (decide_eq_false (by omega)) ?_
            refine W.ret ?_
            refine W.pure kO rfl rfl ?_
            have d4 : (ownF us x == ownF us x) = true := beq_self_eq_true _
            repeat (first | refine W.ite_t d4 ?_ | refine W.ite_t rfl ?_ | refine W.ite_f rfl ?_)
            refine W.ret (RetQ.pure rfl (ret_bI ?_))
            have d5 : (decide (ownF us x ≥ 0) == decide ((us.length : Int) > 0)) = true := by
              by_cases h0 : us.length = 0
              · have e1 : ownF us x = -1 := by unfold ownF; rw [if_pos h0]
                rw [decide_eq_false (show ¬ ownF us x ≥ 0 by omega), decide_eq_false (show ¬ (us.length : Int) > 0 by omega)]; rfl
              · obtain ⟨o, ho, _⟩ := own_min hst hrg hx (k := 0) (by omega)
                rw [decide_eq_true (show ownF us x ≥ 0 by omega), decide_eq_true (show (us.length : Int) > 0 by omega)]; rfl
            first | exact d5 | (rw [d5]; rfl) | (rw [d4, d5]; rfl)
end Go.Proofs.Ytddhlmejaobcgaa.Pu
