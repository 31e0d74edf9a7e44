import Derived.Test.YtddhlmejaobcgaaBKu
set_option maxRecDepth 100000
set_option linter.unusedVariables false
set_option linter.unusedSimpArgs false
set_option linter.ambiguousOpen false
/- The statement's walk. -/
namespace Go.Proofs.Ytddhlmejaobcgaa.Bk
open Go Go.Am Co
def od5 : Ords := []
theorem code5 : codeB Try.f5.ntmps od5 (match Try.f5.body with | some c => c | none => .skip) = true := by kernel_rfl
theorem vec_ix {l : List Int} {i : Nat} {a : Int} (h : l[i]? = some a) : Elem (flat Pi.eC l) [.int .i64] (i * 1) 1 [nI a] := sl_ix h
theorem doneB {e : AExit} {ep : Nat} {H : HMap} {r : Store} : RetQ 1 (fun v s => v = bI true) e [(0, bI true)] (.heap ep H :: r) := RetQ.part [0] (by simp) (by intro i hi; obtain rfl := List.mem_singleton.1 hi; exact Nat.succ_pos _) kp1H rfl
theorem kp22 : ∀ i, i < 2 → ([0, 1] : List Nat)[i]? = some i := by decide
theorem lt2 : ∀ i ∈ ([0, 1] : List Nat), i < 2 := by decide
theorem lt23 : ∀ i ∈ ([0, 1] : List Nat), i < 3 := by decide
theorem lt24 : ∀ i ∈ ([0, 1] : List Nat), i < 4 := by decide
theorem lt33 : ∀ i ∈ ([0, 1, 2] : List Nat), i < 3 := by decide
theorem kp33 : ∀ i, i < 3 → ([0, 1, 2] : List Nat)[i]? = some i := by decide
theorem take_all (l : List Int) : (flat Pi.eC l).take (l.length * 1) = flat Pi.eC l := by rw [Nat.mul_one, List.take_of_length_le (by rw [Pi.fl_len]; exact Nat.le_refl _)]
/-- Slots of lists that are not to be kept go on as data. -/
theorem startSoft (l : List Nat) (T : List Nat) {fr : Fr} {σ : Store} (h : ∀ i j, idx T i = some j → i = j) : Go.Am.Start fr σ (keepFr (AV.sub σ (idx T)) fr l []) σ := fun g w hw => ⟨g, hw, Step.refl _ _ _, fun t v hv => by
  rcases keepFr_get (AV.sub σ (idx T)) fr l [] t with e | e
  · rw [e]; exact VR.sub (fun _ _ h => h) (fun i j hij => by obtain rfl := h i j hij; exact Cpt.refl _ _ _) _ _ hv
  · rw [e]; exact True.intro⟩
theorem soft0 : ∀ i j, idx [0] i = some j → i = j := fun i j h => by
  have := idx_some h
  cases j with
  | zero => exact (Option.some.inj this).symm
  | succ j => cases this
theorem drop_at {l : List Int} {i : Nat} {a : Int} (h : l[i]? = some a) : l.drop i = a :: l.drop (i + 1) := by
  obtain ⟨hl, rfl⟩ := List.getElem?_eq_some_iff.1 h
  exact List.drop_eq_getElem_cons hl

set_option maxHeartbeats 32000000 in
theorem ok5 (places via : List Int) (rounds : Int) (hp : ∀ y ∈ places, rgP y) : CallOk Try.prog 5 [slU places, .d (.sl via.length (flat Pi.eC via)), .d (nI rounds)] [.heap 0 fun _ => none] (fun v s => v = bI true) := by
  refine CallOk.of tysHOk mixed od5 Try.func5 rfl rfl code5 ?_
  by_cases h1 : rounds < 0
  · repeat (first | refine W.ite_t (decide_eq_true h1) ?_ | refine W.ite_t rfl ?_ | refine W.ite_f rfl ?_)
    exact W.ret doneB
  have c1 : decide (rounds < 0) = false := decide_eq_false h1
  by_cases h2 : rounds > 5
  · repeat (first | refine W.ite_f c1 ?_ | refine W.ite_t (decide_eq_true h2) ?_ | refine W.ite_t rfl ?_ | refine W.ite_f rfl ?_)
    exact W.ret doneB
  have c2 : decide (rounds > 5) = false := decide_eq_false h2
  obtain ⟨R, rfl⟩ := Int.eq_ofNat_of_zero_le (Int.not_lt.1 h1)
  have hR5 : R ≤ 5 := by omega
  repeat (first | refine W.ite_f c1 ?_ | refine W.ite_f c2 ?_ | refine W.ite_f rfl ?_)
  refine W.alt_l ?_
  refine W.callT [0] (ok25 _ _) (by decide) rfl rfl rfl rfl ?_
  rintro v s ⟨r, b, M0, ep1, H1, rfl, rfl, hF1, hM1⟩
  refine W.callT [0] (ok25 _ _) (by decide) rfl rfl rfl rfl ?_
  rintro v s ⟨s, bs, Ms, ep2, H2, rfl, rfl, hF2, hM2⟩
  repeat (first | refine W.ite_t rfl ?_ | refine W.ite_f rfl ?_)
  have hI1 := ideal_of hM1
  have hI2 := ideal_of hM2
  -- guests come
  refine W.loop (fun k fr σ => ∃ (i : Nat) (l : List Int) (M : List Ent) (ep : Nat) (H : HMap), fr = [(0, slU places), (1, .d (.sl via.length (flat Pi.eC via))), (2, .d (nI R)), (7, slU zs4), (8, .d (pD r)), (10, .d (pD s)), (12, .vec 1 l.length), (13, .d (nI i))] ∧ σ = [.heap ep H, .vec 1 l.length (flat Pi.eC l)] ∧ i ≤ 12 ∧ Stt H r b M s bs Ms l i ∧ k = 12 - i) 12
    (Start.of [0, 1, 2, 7, 8, 10, 12, 13] [] (by simp)) ⟨0, [], M0, ep2, H2, rfl, rfl, Nat.zero_le _, Stt.start hF1 hF2 hI1, rfl⟩ ?_
  rintro k fr σ ⟨i, l, M, ep, H, rfl, rfl, hi, hS, rfl⟩
  by_cases hgo : i < places.length ∧ i < 12
  · obtain ⟨g1, g2⟩ := hgo
    have d1 : decide ((i : Int) < (places.length : Int)) = true := decide_eq_true (by omega)
    have d2 : decide ((i : Int) < 12) = true := decide_eq_true (by omega)
    have gi : IntKind.i64.wrap ((i : Int) + 1) = ((i + 1 : Nat) : Int) := by rw [wrap64 (by omega) (by omega)]; rfl
    have w4 : IntKind.i64.wrap (4 + (i : Int)) = 4 + (i : Int) := wrap64 (by omega) (by omega)
    obtain ⟨id, hid⟩ : ∃ a, places[i]? = some a := ⟨_, List.getElem?_eq_getElem g1⟩
    have hidr := hp id (List.mem_of_getElem? hid)
    have hJ := fun (k : Int) => ok26 good H ep r b M hS.ra (by have := hS.len; omega) hS.inv (IntKind.i64.wrap (4 + (i : Int))) id k (by rw [w4]; omega) (by rw [w4]; omega) (by rw [w4]; exact hS.no)
    repeat (first | refine W.ite_t d1 ?_ | refine W.ite_t d2 ?_ | refine W.ite_t rfl ?_)
    by_cases hv : i < via.length
    · obtain ⟨kv, hkv⟩ : ∃ a, via[i]? = some a := ⟨_, List.getElem?_eq_getElem hv⟩
      refine W.ite_t (decide_eq_true (by omega)) ?_
      refine W.need (ix_ok Pi.eC_len (by decide) hv) ?_
      refine W.ld (sl_ix hkv) ?_
      refine W.need (ix_ok u_len (by decide) g1) ?_
      refine W.ld (u_ix hid) ?_
      refine W.callT [0] (hJ _) (by decide) rfl rfl rfl rfl ?_
      rintro v st ⟨ep1, H1, rfl, hK, hj⟩
      rw [w4] at hj
      rcases hj with ⟨rfl, M', hj, hnew, hR'⟩ | ⟨⟨c, rfl⟩, hR'⟩
      · refine W.ite_t rfl ?_
        refine W.alt_l ?_
        refine W.need ⟨rfl, rfl, rfl, (by have := hS.ln; omega), (by have := hS.ln; omega), (by intro c hc; obtain rfl := List.mem_singleton.1 hc; rfl)⟩ ?_
        have hS' := hS.join hidr hj hnew hK hR'
        have hfl : flat Pi.eC (l ++ [4 + (i : Int)]) = flat Pi.eC l ++ [nI (IntKind.i64.wrap (4 + (i : Int)))] := by rw [flat_snoc, w4]
        refine W.loop (fun k fr σ => ∃ (j : Nat) (M : List Ent) (ep : Nat) (H : HMap), fr = [(0, slU places), (1, .d (.sl via.length (flat Pi.eC via))), (2, .d (nI R)), (7, slU zs4), (8, .d (pD r)), (10, .d (pD s)), (12, .vec 1 (l ++ [4 + (i : Int)]).length), (13, .d (nI i)), (15, .d (nI j))] ∧ σ = [.heap ep H, .vec 1 (l ++ [4 + (i : Int)]).length (flat Pi.eC (l ++ [4 + (i : Int)]))] ∧ j ≤ R ∧ Stt H r b M s bs Ms (l ++ [4 + (i : Int)]) (i + 1) ∧ k = R - j) R
          (Start.of [0, 1, 2, 7, 8, 10, 12, 13, 15] [] (by simp)) ⟨0, M', ep1, H1, (by rw [List.length_append]; rfl), (by rw [hfl, List.length_append]; rfl), Nat.zero_le _, hS', rfl⟩ ?_
        rintro k fr σ ⟨j, M2, ep2, H2, rfl, rfl, hj, hS2, rfl⟩
        by_cases hjR : j < R
        · have gj : IntKind.i64.wrap ((j : Int) + 1) = ((j + 1 : Nat) : Int) := by rw [wrap64 (by omega) (by omega)]; rfl
          refine W.ite_t (decide_eq_true (by omega)) ?_
          refine W.callT [0] (ok27 good H2 ep2 r b M2 hS2.ra (by have := hS2.len; omega) hS2.inv) (by decide) rfl rfl rfl rfl ?_
          rintro v st ⟨rfl, ls, ep3, H3, hls, rfl, hR3, hK3⟩
          refine W.ret ⟨_, _, _, ?_, Trim.of [0, 1, 2, 7, 8, 10, 12, 13, 15] [0, 1] (by decide) lt2 kp22, j + 1, _, ep3, H3, ?_, rfl, by omega, hS2.round hls hK3 hR3, rfl⟩
          · omega
          · rw [← gj]; rfl
        · refine W.ite_f (decide_eq_false (by omega)) ?_
          refine W.ret ?_
          refine W.ret ⟨_, _, _, ?_, Trim.of [0, 1, 2, 7, 8, 10, 12, 13] [0, 1] (by decide) lt2 kp22, i + 1, _, M2, ep2, H2, ?_, rfl, by omega, hS2, rfl⟩
          · omega
          · rw [← gi]; rfl
      · refine W.ite_f rfl ?_
        have hS' := hS.skip hK hR'
        refine W.loop (fun k fr σ => ∃ (j : Nat) (M : List Ent) (ep : Nat) (H : HMap), fr = [(0, slU places), (1, .d (.sl via.length (flat Pi.eC via))), (2, .d (nI R)), (7, slU zs4), (8, .d (pD r)), (10, .d (pD s)), (12, .vec 1 l.length), (13, .d (nI i)), (15, .d (nI j))] ∧ σ = [.heap ep H, .vec 1 l.length (flat Pi.eC l)] ∧ j ≤ R ∧ Stt H r b M s bs Ms l (i + 1) ∧ k = R - j) R
          (Start.of [0, 1, 2, 7, 8, 10, 12, 13, 15] [] (by simp)) ⟨0, M, ep1, H1, rfl, rfl, Nat.zero_le _, hS', rfl⟩ ?_
        rintro k fr σ ⟨j, M2, ep2, H2, rfl, rfl, hj, hS2, rfl⟩
        by_cases hjR : j < R
        · have gj : IntKind.i64.wrap ((j : Int) + 1) = ((j + 1 : Nat) : Int) := by rw [wrap64 (by omega) (by omega)]; rfl
          refine W.ite_t (decide_eq_true (by omega)) ?_
          refine W.callT [0] (ok27 good H2 ep2 r b M2 hS2.ra (by have := hS2.len; omega) hS2.inv) (by decide) rfl rfl rfl rfl ?_
          rintro v st ⟨rfl, ls, ep3, H3, hls, rfl, hR3, hK3⟩
          refine W.ret ⟨_, _, _, ?_, Trim.of [0, 1, 2, 7, 8, 10, 12, 13, 15] [0, 1] (by decide) lt2 kp22, j + 1, _, ep3, H3, ?_, rfl, by omega, hS2.round hls hK3 hR3, rfl⟩
          · omega
          · rw [← gj]; rfl
        · refine W.ite_f (decide_eq_false (by omega)) ?_
          refine W.ret ?_
          refine W.ret ⟨_, _, _, ?_, Trim.of [0, 1, 2, 7, 8, 10, 12, 13] [0, 1] (by decide) lt2 kp22, i + 1, _, M2, ep2, H2, ?_, rfl, by omega, hS2, rfl⟩
          · omega
          · rw [← gi]; rfl
    · refine W.ite_f (decide_eq_false (by omega)) ?_
      refine W.need (ix_ok u_len (by decide) g1) ?_
      refine W.ld (u_ix hid) ?_
      refine W.callT [0] (hJ _) (by decide) rfl rfl rfl rfl ?_
      rintro v st ⟨ep1, H1, rfl, hK, hj⟩
      rw [w4] at hj
      rcases hj with ⟨rfl, M', hj, hnew, hR'⟩ | ⟨⟨c, rfl⟩, hR'⟩
      · refine W.ite_t rfl ?_
        refine W.alt_l ?_
        refine W.need ⟨rfl, rfl, rfl, (by have := hS.ln; omega), (by have := hS.ln; omega), (by intro c hc; obtain rfl := List.mem_singleton.1 hc; rfl)⟩ ?_
        have hS' := hS.join hidr hj hnew hK hR'
        have hfl : flat Pi.eC (l ++ [4 + (i : Int)]) = flat Pi.eC l ++ [nI (IntKind.i64.wrap (4 + (i : Int)))] := by rw [flat_snoc, w4]
        refine W.loop (fun k fr σ => ∃ (j : Nat) (M : List Ent) (ep : Nat) (H : HMap), fr = [(0, slU places), (1, .d (.sl via.length (flat Pi.eC via))), (2, .d (nI R)), (7, slU zs4), (8, .d (pD r)), (10, .d (pD s)), (12, .vec 1 (l ++ [4 + (i : Int)]).length), (13, .d (nI i)), (15, .d (nI j))] ∧ σ = [.heap ep H, .vec 1 (l ++ [4 + (i : Int)]).length (flat Pi.eC (l ++ [4 + (i : Int)]))] ∧ j ≤ R ∧ Stt H r b M s bs Ms (l ++ [4 + (i : Int)]) (i + 1) ∧ k = R - j) R
          (Start.of [0, 1, 2, 7, 8, 10, 12, 13, 15] [] (by simp)) ⟨0, M', ep1, H1, (by rw [List.length_append]; rfl), (by rw [hfl, List.length_append]; rfl), Nat.zero_le _, hS', rfl⟩ ?_
        rintro k fr σ ⟨j, M2, ep2, H2, rfl, rfl, hj, hS2, rfl⟩
        by_cases hjR : j < R
        · have gj : IntKind.i64.wrap ((j : Int) + 1) = ((j + 1 : Nat) : Int) := by rw [wrap64 (by omega) (by omega)]; rfl
          refine W.ite_t (decide_eq_true (by omega)) ?_
          refine W.callT [0] (ok27 good H2 ep2 r b M2 hS2.ra (by have := hS2.len; omega) hS2.inv) (by decide) rfl rfl rfl rfl ?_
          rintro v st ⟨rfl, ls, ep3, H3, hls, rfl, hR3, hK3⟩
          refine W.ret ⟨_, _, _, ?_, Trim.of [0, 1, 2, 7, 8, 10, 12, 13, 15] [0, 1] (by decide) lt2 kp22, j + 1, _, ep3, H3, ?_, rfl, by omega, hS2.round hls hK3 hR3, rfl⟩
          · omega
          · rw [← gj]; rfl
        · refine W.ite_f (decide_eq_false (by omega)) ?_
          refine W.ret ?_
          refine W.ret ⟨_, _, _, ?_, Trim.of [0, 1, 2, 7, 8, 10, 12, 13] [0, 1] (by decide) lt2 kp22, i + 1, _, M2, ep2, H2, ?_, rfl, by omega, hS2, rfl⟩
          · omega
          · rw [← gi]; rfl
      · refine W.ite_f rfl ?_
        have hS' := hS.skip hK hR'
        refine W.loop (fun k fr σ => ∃ (j : Nat) (M : List Ent) (ep : Nat) (H : HMap), fr = [(0, slU places), (1, .d (.sl via.length (flat Pi.eC via))), (2, .d (nI R)), (7, slU zs4), (8, .d (pD r)), (10, .d (pD s)), (12, .vec 1 l.length), (13, .d (nI i)), (15, .d (nI j))] ∧ σ = [.heap ep H, .vec 1 l.length (flat Pi.eC l)] ∧ j ≤ R ∧ Stt H r b M s bs Ms l (i + 1) ∧ k = R - j) R
          (Start.of [0, 1, 2, 7, 8, 10, 12, 13, 15] [] (by simp)) ⟨0, M, ep1, H1, rfl, rfl, Nat.zero_le _, hS', rfl⟩ ?_
        rintro k fr σ ⟨j, M2, ep2, H2, rfl, rfl, hj, hS2, rfl⟩
        by_cases hjR : j < R
        · have gj : IntKind.i64.wrap ((j : Int) + 1) = ((j + 1 : Nat) : Int) := by rw [wrap64 (by omega) (by omega)]; rfl
          refine W.ite_t (decide_eq_true (by omega)) ?_
          refine W.callT [0] (ok27 good H2 ep2 r b M2 hS2.ra (by have := hS2.len; omega) hS2.inv) (by decide) rfl rfl rfl rfl ?_
          rintro v st ⟨rfl, ls, ep3, H3, hls, rfl, hR3, hK3⟩
          refine W.ret ⟨_, _, _, ?_, Trim.of [0, 1, 2, 7, 8, 10, 12, 13, 15] [0, 1] (by decide) lt2 kp22, j + 1, _, ep3, H3, ?_, rfl, by omega, hS2.round hls hK3 hR3, rfl⟩
          · omega
          · rw [← gj]; rfl
        · refine W.ite_f (decide_eq_false (by omega)) ?_
          refine W.ret ?_
          refine W.ret ⟨_, _, _, ?_, Trim.of [0, 1, 2, 7, 8, 10, 12, 13] [0, 1] (by decide) lt2 kp22, i + 1, _, M2, ep2, H2, ?_, rfl, by omega, hS2, rfl⟩
          · omega
          · rw [← gi]; rfl
  · have hx : (decide ((i : Int) < (places.length : Int)) = false) ∨ (decide ((i : Int) < (places.length : Int)) = true ∧ decide ((i : Int) < 12) = false) := by
      by_cases g1 : i < places.length
      · exact .inr ⟨decide_eq_true (by omega), decide_eq_false (by omega)⟩
      · exact .inl (decide_eq_false (by omega))
    rcases hx with d1 | ⟨d1, d2⟩
    · repeat (first | refine W.ite_f d1 ?_ | refine W.ite_f rfl ?_)
      refine W.ret ?_
      refine W.loop (fun k fr σ => ∃ (t : Nat) (l2 : List Int) (M : List Ent) (ep : Nat) (H : HMap) (c : Nat), fr = [(7, slU zs4), (8, .d (pD r)), (10, .d (pD s)), (12, .d (.sl l2.length (flat Pi.eC l2))), (16, .d (nI t))] ∧ σ = [.heap ep H, .vec 1 l.length (flat Pi.eC l)] ∧ Stt H r b M s bs Ms l2 i ∧ pot M c ∧ c ≤ 2 ∧ t + 3 * l2.length ≤ 36 + c ∧ k = 40 - t) 40
        (startSoft [7, 8, 10, 12, 16] [0] soft0) ⟨0, l, M, ep, H, 0, (by conv => { rhs; rw [← take_all l] }; rfl), rfl, hS, pot_zero M, Nat.zero_le _, (by have := hS.ln; omega), rfl⟩ ?_
      rintro k fr σ ⟨t, l2, M2, ep2, H2, c, rfl, rfl, hS2, hpot, hc, hph, rfl⟩
      by_cases hl0 : 0 < l2.length
      · have e1 : decide ((t : Int) < 40) = true := decide_eq_true (by omega)
        have e2 : decide ((l2.length : Int) > 0) = true := decide_eq_true (by omega)
        have gt : IntKind.i64.wrap ((t : Int) + 1) = ((t + 1 : Nat) : Int) := by rw [wrap64 (by omega) (by omega)]; rfl
        repeat (first | refine W.ite_t e1 ?_ | refine W.ite_t e2 ?_ | refine W.ite_t rfl ?_)
        refine W.loop (fun k fr σ => ∃ (p : Nat) (left : List Int) (M : List Ent) (ep : Nat) (H : HMap), fr = [(7, slU zs4), (8, .d (pD r)), (10, .d (pD s)), (16, .d (nI t)), (17, .vec 2 left.length), (108, .d (.sl l2.length (flat Pi.eC l2))), (109, .d (nI l2.length)), (110, .d (nI p))] ∧ σ = [.heap ep H, .vec 1 l.length (flat Pi.eC l), .vec 1 left.length (flat Pi.eC left)] ∧ p ≤ l2.length ∧ Stt H r b M s bs Ms (left ++ l2.drop p) i ∧ ((left.length = p ∧ M = M2 ∧ (p = 0 ∨ ¬ all2 M2)) ∨ left.length < p) ∧ k = l2.length - p) l2.length
          (Start.of [7, 8, 10, 16, 17, 108, 109, 110] [] (by simp)) ⟨0, [], M2, ep2, H2, rfl, rfl, Nat.zero_le _, hS2, .inl ⟨rfl, rfl, .inl rfl⟩, rfl⟩ ?_
        rintro k fr σ ⟨p, left, M3, ep3, H3, rfl, rfl, hpl, hS3, hpr, rfl⟩
        by_cases hlt : p < l2.length
        · obtain ⟨x, hx⟩ : ∃ a, l2[p]? = some a := ⟨_, List.getElem?_eq_getElem hlt⟩
          rw [drop_at hx] at hS3
          have hxin : x ∈ left ++ x :: l2.drop (p + 1) := by simp
          have hlx := (hS3.lv x).2 (.inr hxin)
          have gp : IntKind.i64.wrap ((p : Int) + 1) = ((p + 1 : Nat) : Int) := by rw [wrap64 (by have := hS2.ln; omega) (by have := hS2.ln; omega)]; rfl
          refine W.ite_t (decide_eq_true (by omega)) ?_
          refine W.need (ix_ok Pi.eC_len (by decide) hlt) ?_
          refine W.ld (sl_ix hx) ?_
          refine W.callT [0] (ok28 H3 ep3 r b M3 hS3.ra (by have := hS3.len; omega) x (hS3.big x hxin) hlx) (by decide) rfl rfl rfl rfl ?_
          rintro v st ⟨ep4, H4, rfl, hK, hj⟩
          rcases hj with ⟨rfl, hm, hR⟩ | ⟨rfl, hm, hR⟩
          · refine W.ite_f rfl ?_
            refine W.ret ⟨_, _, _, ?_, Trim.of [7, 8, 10, 16, 17, 108, 109, 110] [0, 1, 2] (by decide) lt33 kp33, p + 1, left, _, ep4, H4, ?_, rfl, by omega, hS3.kill hm hK hR, .inr ?_, rfl⟩
            · omega
            · rw [← gp]; rfl
            · rcases hpr with ⟨e, _, _⟩ | e <;> omega
          · refine W.ite_t rfl ?_
            refine W.alt_l ?_
            have hll : left.length ≤ 12 := by
              have := hS3.ln
              rw [List.length_append] at this
              omega
            refine W.need ⟨rfl, rfl, rfl, (by omega), (by omega), (by intro c hc; obtain rfl := List.mem_singleton.1 hc; rfl)⟩ ?_
            have hS4 := hS3.same hK hR
            refine W.ret ⟨_, _, _, ?_, Trim.of [7, 8, 10, 16, 17, 108, 109, 110] [0, 1, 2] (by decide) lt33 kp33, p + 1, left ++ [x], M3, ep4, H4, ?_, ?_, by omega, ?_, ?_, rfl⟩
            · omega
            · rw [← gp, List.length_append]; rfl
            · rw [flat_snoc, List.length_append]; rfl
            · rw [List.append_assoc]; exact hS4
            · rw [List.length_append, List.length_cons, List.length_nil]
              rcases hpr with ⟨e, e2, _⟩ | e
              · subst e2
                exact .inl ⟨by omega, rfl, .inr fun ha => hm (may_go hS3.inv ha hlx)⟩
              · exact .inr (by omega)
        · obtain rfl : p = l2.length := by omega
          rw [List.drop_length, List.append_nil] at hS3
          refine W.ite_f (decide_eq_false (by omega)) ?_
          refine W.ret ?_
          refine W.callT [0] (ok27 good H3 ep3 r b M3 hS3.ra (by have := hS3.len; omega) hS3.inv) (by decide) rfl rfl rfl rfl ?_
          rintro v st ⟨rfl, ls, ep4, H4, hls, rfl, hR4, hK4⟩
          obtain ⟨c2, hp2, hc2, hph2⟩ : ∃ c2, pot M3 c2 ∧ c2 ≤ 2 ∧ t + 1 + 3 * left.length ≤ 36 + (if c2 = 0 then 1 else 2) := by
            rcases hpr with ⟨e, e2, e3⟩ | e
            · subst e2
              have hn : ¬ all2 M3 := e3.resolve_left (by omega)
              have hc1 : c ≤ 1 := by
                apply Classical.byContradiction
                intro h
                exact hn (hpot.2 (by omega))
              refine ⟨c, hpot, hc, ?_⟩
              split <;> omega
            · exact ⟨0, pot_zero _, Nat.zero_le _, by rw [if_pos rfl]; omega⟩
          refine W.ret ⟨_, _, _, ?_, Trim.of [7, 8, 10, 12, 16] [0, 1] (by decide) lt23 kp22, t + 1, left, _, ep4, H4, (if c2 = 0 then 1 else 2), ?_, rfl, hS3.round hls hK4 hR4, pot_round hS3.inv hp2 hls, (by split <;> omega), hph2, rfl⟩
          · omega
          · rw [← gt]
            conv => { rhs; rw [← take_all left] }
            rfl
      · have hl2 : l2 = [] := List.eq_nil_of_length_eq_zero (by omega)
        subst hl2
        have e1 : decide ((t : Int) < 40) = true := decide_eq_true (by have : t ≤ 38 := (by omega); omega)
        repeat (first | refine W.ite_t e1 ?_ | refine W.ite_f rfl ?_)
        refine W.ret ?_
        repeat (first | refine W.ite_f rfl ?_)
        refine W.loop (fun k fr σ => ∃ (j : Nat) (M : List Ent) (ep : Nat) (H : HMap), fr = [(7, slU zs4), (8, .d (pD r)), (10, .d (pD s)), (20, .d (nI j))] ∧ σ = [.heap ep H, .vec 1 l.length (flat Pi.eC l)] ∧ j ≤ 24 ∧ Stt H r b M s bs Ms [] i ∧ bas M j ∧ k = 24 - j) 24
          (Start.of [7, 8, 10, 20] [] (by simp)) ⟨0, M2, ep2, H2, rfl, rfl, Nat.zero_le _, hS2, bas_zero _, rfl⟩ ?_
        rintro k fr σ ⟨j, M3, ep3, H3, rfl, rfl, hj, hS3, hbas, rfl⟩
        by_cases hlt : j < 24
        · have gj : IntKind.i64.wrap ((j : Int) + 1) = ((j + 1 : Nat) : Int) := by rw [wrap64 (by omega) (by omega)]; rfl
          refine W.ite_t (decide_eq_true (by omega)) ?_
          refine W.callT [0] (ok27 good H3 ep3 r b M3 hS3.ra (by have := hS3.len; omega) hS3.inv) (by decide) rfl rfl rfl rfl ?_
          rintro v st ⟨rfl, ls, ep4, H4, hls, rfl, hR4, hK4⟩
          refine W.ret ⟨_, _, _, ?_, Trim.of [7, 8, 10, 20] [0, 1] (by decide) lt2 kp22, j + 1, _, ep4, H4, ?_, rfl, by omega, hS3.round hls hK4 hR4, bas_round hS3.inv (only_of hS3) hbas hls, rfl⟩
          · omega
          · rw [← gj]; rfl
        · obtain rfl : j = 24 := by omega
          have hget := bas_get hS3.inv (only_of hS3) (n := 24) (by decide) hbas
          refine W.ite_f rfl ?_
          refine W.ret ?_
          refine W.loop (fun k fr σ => ∃ (q : Nat), fr = [(8, .d (pD r)), (10, .d (pD s)), (136, .d (nI 4)), (137, .d (nI q))] ∧ σ = [.heap ep3 H3, .vec 1 l.length (flat Pi.eC l)] ∧ q ≤ 4 ∧ k = 4 - q) 4
            (Start.of [8, 10, 136, 137] [] (by simp)) ⟨0, rfl, rfl, Nat.zero_le _, rfl⟩ ?_
          rintro k fr σ ⟨q, rfl, rfl, hq, rfl⟩
          by_cases hlt : q < 4
          · have gq : IntKind.i64.wrap ((q : Int) + 1) = ((q + 1 : Nat) : Int) := by rw [wrap64 (by omega) (by omega)]; rfl
            have hP1 := ok29 H3 ep3 r b M3 hS3.ra (q : Int) ((only_of hS3 _).2 (by omega))
            have hP2 := ok29 H3 ep3 s bs Ms hS3.rs (q : Int) ((hI2.only _).2 (by omega))
            rw [hget q hlt] at hP1
            rw [hI2.get q hlt] at hP2
            refine W.ite_t (decide_eq_true (by omega)) ?_
            refine W.callH rfl hP1 rfl rfl ?_
            refine W.callH rfl hP2 rfl rfl ?_
            repeat (first | refine W.ite_f rfl ?_ | refine W.ite_t rfl ?_)
            refine W.pure (ok30 (idealM q)) rfl rfl ?_
            repeat (first | refine W.ite_f rfl ?_ | refine W.ite_t rfl ?_)
            refine W.ret ⟨_, _, _, ?_, Trim.of [8, 10, 136, 137] [0, 1] (by decide) lt24 kp22, q + 1, ?_, rfl, by omega, rfl⟩
            · omega
            · rw [← gq]; rfl
          · obtain rfl : q = 4 := by omega
            refine W.ite_f rfl ?_
            refine W.ret ?_
            refine W.callT [0] (ok31 H3 ep3 r b M3 hS3.ra (by have := hS3.len; omega)) (by decide) rfl rfl rfl rfl ?_
            rintro v st ⟨ls, ep4, H4, hls, hll, rfl, rfl, hx⟩
            have e4 : ((ls.length : Int) == 4) = true := by rw [four (only_of hS3) hls]; rfl
            refine W.ret (RetQ.part [0] (by simp) (by intro i hi; obtain rfl := List.mem_singleton.1 hi; exact Nat.succ_pos _) kp1H ?_)
            show AV.d (.lit (.bool ((ls.length : Int) == 4))) = _
            rw [e4]
    · repeat (first | refine W.ite_t d1 ?_ | refine W.ite_f d2 ?_ | refine W.ite_f rfl ?_)
      refine W.ret ?_
      refine W.loop (fun k fr σ => ∃ (t : Nat) (l2 : List Int) (M : List Ent) (ep : Nat) (H : HMap) (c : Nat), fr = [(7, slU zs4), (8, .d (pD r)), (10, .d (pD s)), (12, .d (.sl l2.length (flat Pi.eC l2))), (16, .d (nI t))] ∧ σ = [.heap ep H, .vec 1 l.length (flat Pi.eC l)] ∧ Stt H r b M s bs Ms l2 i ∧ pot M c ∧ c ≤ 2 ∧ t + 3 * l2.length ≤ 36 + c ∧ k = 40 - t) 40
        (startSoft [7, 8, 10, 12, 16] [0] soft0) ⟨0, l, M, ep, H, 0, (by conv => { rhs; rw [← take_all l] }; rfl), rfl, hS, pot_zero M, Nat.zero_le _, (by have := hS.ln; omega), rfl⟩ ?_
      rintro k fr σ ⟨t, l2, M2, ep2, H2, c, rfl, rfl, hS2, hpot, hc, hph, rfl⟩
      by_cases hl0 : 0 < l2.length
      · have e1 : decide ((t : Int) < 40) = true := decide_eq_true (by omega)
        have e2 : decide ((l2.length : Int) > 0) = true := decide_eq_true (by omega)
        have gt : IntKind.i64.wrap ((t : Int) + 1) = ((t + 1 : Nat) : Int) := by rw [wrap64 (by omega) (by omega)]; rfl
        repeat (first | refine W.ite_t e1 ?_ | refine W.ite_t e2 ?_ | refine W.ite_t rfl ?_)
        refine W.loop (fun k fr σ => ∃ (p : Nat) (left : List Int) (M : List Ent) (ep : Nat) (H : HMap), fr = [(7, slU zs4), (8, .d (pD r)), (10, .d (pD s)), (16, .d (nI t)), (17, .vec 2 left.length), (108, .d (.sl l2.length (flat Pi.eC l2))), (109, .d (nI l2.length)), (110, .d (nI p))] ∧ σ = [.heap ep H, .vec 1 l.length (flat Pi.eC l), .vec 1 left.length (flat Pi.eC left)] ∧ p ≤ l2.length ∧ Stt H r b M s bs Ms (left ++ l2.drop p) i ∧ ((left.length = p ∧ M = M2 ∧ (p = 0 ∨ ¬ all2 M2)) ∨ left.length < p) ∧ k = l2.length - p) l2.length
          (Start.of [7, 8, 10, 16, 17, 108, 109, 110] [] (by simp)) ⟨0, [], M2, ep2, H2, rfl, rfl, Nat.zero_le _, hS2, .inl ⟨rfl, rfl, .inl rfl⟩, rfl⟩ ?_
        rintro k fr σ ⟨p, left, M3, ep3, H3, rfl, rfl, hpl, hS3, hpr, rfl⟩
        by_cases hlt : p < l2.length
        · obtain ⟨x, hx⟩ : ∃ a, l2[p]? = some a := ⟨_, List.getElem?_eq_getElem hlt⟩
          rw [drop_at hx] at hS3
          have hxin : x ∈ left ++ x :: l2.drop (p + 1) := by simp
          have hlx := (hS3.lv x).2 (.inr hxin)
          have gp : IntKind.i64.wrap ((p : Int) + 1) = ((p + 1 : Nat) : Int) := by rw [wrap64 (by have := hS2.ln; omega) (by have := hS2.ln; omega)]; rfl
          refine W.ite_t (decide_eq_true (by omega)) ?_
          refine W.need (ix_ok Pi.eC_len (by decide) hlt) ?_
          refine W.ld (sl_ix hx) ?_
          refine W.callT [0] (ok28 H3 ep3 r b M3 hS3.ra (by have := hS3.len; omega) x (hS3.big x hxin) hlx) (by decide) rfl rfl rfl rfl ?_
          rintro v st ⟨ep4, H4, rfl, hK, hj⟩
          rcases hj with ⟨rfl, hm, hR⟩ | ⟨rfl, hm, hR⟩
          · refine W.ite_f rfl ?_
            refine W.ret ⟨_, _, _, ?_, Trim.of [7, 8, 10, 16, 17, 108, 109, 110] [0, 1, 2] (by decide) lt33 kp33, p + 1, left, _, ep4, H4, ?_, rfl, by omega, hS3.kill hm hK hR, .inr ?_, rfl⟩
            · omega
            · rw [← gp]; rfl
            · rcases hpr with ⟨e, _, _⟩ | e <;> omega
          · refine W.ite_t rfl ?_
            refine W.alt_l ?_
            have hll : left.length ≤ 12 := by
              have := hS3.ln
              rw [List.length_append] at this
              omega
            refine W.need ⟨rfl, rfl, rfl, (by omega), (by omega), (by intro c hc; obtain rfl := List.mem_singleton.1 hc; rfl)⟩ ?_
            have hS4 := hS3.same hK hR
            refine W.ret ⟨_, _, _, ?_, Trim.of [7, 8, 10, 16, 17, 108, 109, 110] [0, 1, 2] (by decide) lt33 kp33, p + 1, left ++ [x], M3, ep4, H4, ?_, ?_, by omega, ?_, ?_, rfl⟩
            · omega
            · rw [← gp, List.length_append]; rfl
            · rw [flat_snoc, List.length_append]; rfl
            · rw [List.append_assoc]; exact hS4
            · rw [List.length_append, List.length_cons, List.length_nil]
              rcases hpr with ⟨e, e2, _⟩ | e
              · subst e2
                exact .inl ⟨by omega, rfl, .inr fun ha => hm (may_go hS3.inv ha hlx)⟩
              · exact .inr (by omega)
        · obtain rfl : p = l2.length := by omega
          rw [List.drop_length, List.append_nil] at hS3
          refine W.ite_f (decide_eq_false (by omega)) ?_
          refine W.ret ?_
          refine W.callT [0] (ok27 good H3 ep3 r b M3 hS3.ra (by have := hS3.len; omega) hS3.inv) (by decide) rfl rfl rfl rfl ?_
          rintro v st ⟨rfl, ls, ep4, H4, hls, rfl, hR4, hK4⟩
          obtain ⟨c2, hp2, hc2, hph2⟩ : ∃ c2, pot M3 c2 ∧ c2 ≤ 2 ∧ t + 1 + 3 * left.length ≤ 36 + (if c2 = 0 then 1 else 2) := by
            rcases hpr with ⟨e, e2, e3⟩ | e
            · subst e2
              have hn : ¬ all2 M3 := e3.resolve_left (by omega)
              have hc1 : c ≤ 1 := by
                apply Classical.byContradiction
                intro h
                exact hn (hpot.2 (by omega))
              refine ⟨c, hpot, hc, ?_⟩
              split <;> omega
            · exact ⟨0, pot_zero _, Nat.zero_le _, by rw [if_pos rfl]; omega⟩
          refine W.ret ⟨_, _, _, ?_, Trim.of [7, 8, 10, 12, 16] [0, 1] (by decide) lt23 kp22, t + 1, left, _, ep4, H4, (if c2 = 0 then 1 else 2), ?_, rfl, hS3.round hls hK4 hR4, pot_round hS3.inv hp2 hls, (by split <;> omega), hph2, rfl⟩
          · omega
          · rw [← gt]
            conv => { rhs; rw [← take_all left] }
            rfl
      · have hl2 : l2 = [] := List.eq_nil_of_length_eq_zero (by omega)
        subst hl2
        have e1 : decide ((t : Int) < 40) = true := decide_eq_true (by have : t ≤ 38 := (by omega); omega)
        repeat (first | refine W.ite_t e1 ?_ | refine W.ite_f rfl ?_)
        refine W.ret ?_
        repeat (first | refine W.ite_f rfl ?_)
        refine W.loop (fun k fr σ => ∃ (j : Nat) (M : List Ent) (ep : Nat) (H : HMap), fr = [(7, slU zs4), (8, .d (pD r)), (10, .d (pD s)), (20, .d (nI j))] ∧ σ = [.heap ep H, .vec 1 l.length (flat Pi.eC l)] ∧ j ≤ 24 ∧ Stt H r b M s bs Ms [] i ∧ bas M j ∧ k = 24 - j) 24
          (Start.of [7, 8, 10, 20] [] (by simp)) ⟨0, M2, ep2, H2, rfl, rfl, Nat.zero_le _, hS2, bas_zero _, rfl⟩ ?_
        rintro k fr σ ⟨j, M3, ep3, H3, rfl, rfl, hj, hS3, hbas, rfl⟩
        by_cases hlt : j < 24
        · have gj : IntKind.i64.wrap ((j : Int) + 1) = ((j + 1 : Nat) : Int) := by rw [wrap64 (by omega) (by omega)]; rfl
          refine W.ite_t (decide_eq_true (by omega)) ?_
          refine W.callT [0] (ok27 good H3 ep3 r b M3 hS3.ra (by have := hS3.len; omega) hS3.inv) (by decide) rfl rfl rfl rfl ?_
          rintro v st ⟨rfl, ls, ep4, H4, hls, rfl, hR4, hK4⟩
          refine W.ret ⟨_, _, _, ?_, Trim.of [7, 8, 10, 20] [0, 1] (by decide) lt2 kp22, j + 1, _, ep4, H4, ?_, rfl, by omega, hS3.round hls hK4 hR4, bas_round hS3.inv (only_of hS3) hbas hls, rfl⟩
          · omega
          · rw [← gj]; rfl
        · obtain rfl : j = 24 := by omega
          have hget := bas_get hS3.inv (only_of hS3) (n := 24) (by decide) hbas
          refine W.ite_f rfl ?_
          refine W.ret ?_
          refine W.loop (fun k fr σ => ∃ (q : Nat), fr = [(8, .d (pD r)), (10, .d (pD s)), (136, .d (nI 4)), (137, .d (nI q))] ∧ σ = [.heap ep3 H3, .vec 1 l.length (flat Pi.eC l)] ∧ q ≤ 4 ∧ k = 4 - q) 4
            (Start.of [8, 10, 136, 137] [] (by simp)) ⟨0, rfl, rfl, Nat.zero_le _, rfl⟩ ?_
          rintro k fr σ ⟨q, rfl, rfl, hq, rfl⟩
          by_cases hlt : q < 4
          · have gq : IntKind.i64.wrap ((q : Int) + 1) = ((q + 1 : Nat) : Int) := by rw [wrap64 (by omega) (by omega)]; rfl
            have hP1 := ok29 H3 ep3 r b M3 hS3.ra (q : Int) ((only_of hS3 _).2 (by omega))
            have hP2 := ok29 H3 ep3 s bs Ms hS3.rs (q : Int) ((hI2.only _).2 (by omega))
            rw [hget q hlt] at hP1
            rw [hI2.get q hlt] at hP2
            refine W.ite_t (decide_eq_true (by omega)) ?_
            refine W.callH rfl hP1 rfl rfl ?_
            refine W.callH rfl hP2 rfl rfl ?_
            repeat (first | refine W.ite_f rfl ?_ | refine W.ite_t rfl ?_)
            refine W.pure (ok30 (idealM q)) rfl rfl ?_
            repeat (first | refine W.ite_f rfl ?_ | refine W.ite_t rfl ?_)
            refine W.ret ⟨_, _, _, ?_, Trim.of [8, 10, 136, 137] [0, 1] (by decide) lt24 kp22, q + 1, ?_, rfl, by omega, rfl⟩
            · omega
            · rw [← gq]; rfl
          · obtain rfl : q = 4 := by omega
            refine W.ite_f rfl ?_
            refine W.ret ?_
            refine W.callT [0] (ok31 H3 ep3 r b M3 hS3.ra (by have := hS3.len; omega)) (by decide) rfl rfl rfl rfl ?_
            rintro v st ⟨ls, ep4, H4, hls, hll, rfl, rfl, hx⟩
            have e4 : ((ls.length : Int) == 4) = true := by rw [four (only_of hS3) hls]; rfl
            refine W.ret (RetQ.part [0] (by simp) (by intro i hi; obtain rfl := List.mem_singleton.1 hi; exact Nat.succ_pos _) kp1H ?_)
            show AV.d (.lit (.bool ((ls.length : Int) == 4))) = _
            rw [e4]
end Go.Proofs.Ytddhlmejaobcgaa.Bk
