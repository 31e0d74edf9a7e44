import Derived.Test.YtemabpapfkplgaaBR
import Derived.Test.YtemabpapfkplgaaBV
set_option maxRecDepth 100000
set_option linter.unusedVariables false
set_option linter.unusedSimpArgs false
/- The statement BagOnce. -/
namespace Go.Proofs.Ytemabpapfkplgaa.Bg
open Go Go.Am
def od3 : Ords := []
theorem code3 : codeB Try.f3.ntmps od3 (match Try.f3.body with | some c => c | none => .skip) = true := by kernel_rfl
theorem ix_none {x : Int} {l : List Pk} (h : ∀ p ∈ l, p.id ≠ x) : ixI x l = -1 := by
  rcases ixD_spec (fun p => p.id == x) l 0 with ⟨h1, _⟩ | ⟨k, p, h1, h2, h3, _⟩
  · exact h1
  · have h4 : p.id = x := by simpa using h3
    exact absurd h4 (h p (List.mem_of_getElem? h2))
/-- Taken, it is not there any more. -/
theorem ix_gone {l : List Pk} (hs : l.Pairwise fun p q => p.id < q.id) {k : Nat} {p : Pk} (hp : l[k]? = some p) : ixI p.id (l.eraseIdx k) = -1 := by
  refine ix_none fun q hq e => ?_
  obtain ⟨m, hm⟩ := List.getElem?_of_mem hq
  rw [List.getElem?_eraseIdx] at hm
  obtain ⟨h1, h2⟩ := List.getElem?_eq_some_iff.1 hp
  split at hm
  · obtain ⟨h3, h4⟩ := List.getElem?_eq_some_iff.1 hm
    have := List.pairwise_iff_getElem.1 hs m k h3 h1 (by omega)
    rw [h4, h2] at this
    omega
  · obtain ⟨h3, h4⟩ := List.getElem?_eq_some_iff.1 hm
    have := List.pairwise_iff_getElem.1 hs k (m + 1) h1 h3 (by omega)
    rw [h4, h2] at this
    omega
theorem ix_id {x : Int} {l : List Pk} {k : Nat} {p : Pk} (h : ixI x l = k) (hp : l[k]? = some p) : p.id = x := by
  rcases ixD_spec (fun p => p.id == x) l 0 with ⟨h1, _⟩ | ⟨k', p', h1, h2, h3, _⟩
  · have h' : ixD (fun p => p.id == x) l 0 = k := h
    rw [h1] at h'
    exact absurd h' (by omega)
  · have h' : ixD (fun p => p.id == x) l 0 = k := h
    rw [h1] at h'
    obtain rfl : k' = k := by omega
    rw [hp] at h2
    obtain rfl := Option.some.inj h2
    simpa using h3
/-- Numbers tell packets. -/
theorem one_id {S : List Pk} (hs : S.Pairwise fun p q => p.id < q.id) {p q : Pk} (hp : p ∈ S) (hq : q ∈ S) (h : p.id = q.id) : p = q := by
  obtain ⟨a, ha⟩ := List.getElem?_of_mem hp
  obtain ⟨b, hb⟩ := List.getElem?_of_mem hq
  obtain ⟨h1, h2⟩ := List.getElem?_eq_some_iff.1 ha
  obtain ⟨h3, h4⟩ := List.getElem?_eq_some_iff.1 hb
  rcases Nat.lt_trichotomy a b with hab | rfl | hab
  · have := List.pairwise_iff_getElem.1 hs a b h1 h3 hab
    rw [h2, h4] at this; omega
  · rw [ha] at hb; exact Option.some.inj hb
  · have := List.pairwise_iff_getElem.1 hs b a h3 h1 hab
    rw [h2, h4] at this; omega
theorem ba_refl (s : ByteArray) : (s == s) = true := by
  cases s with | mk d => exact beq_self_eq_true d
theorem pkV {l : List Pk} {i : Nat} {p : Pk} (h : l[i]? = some p) : Elem ((flat pkC l).take (l.length * 4)) [.int .i64, .int .i64, .int .i64, .str] (i * 4) 4 (pkC p) := by
  rw [flat_all pkC_len]; exact pkD h
set_option maxHeartbeats 8000000 in
theorem ok3 (l : List ByteArray) (o : List Int) : Go.Am.Pure Try.prog 3 [slF sC l, slF iC o] (bI true) := by
  refine CallOk.of tysOk mixed od3 Try.func3 rfl rfl code3 ?_
  refine W.loop (fun k fr σ => ∃ (i : Nat) (b : B), fr = [(0, slF sC l), (1, slF iC o), (5, .ptr 1 0), (6, .vec 2 b.l.length), (7, .d (nI i))] ∧ σ = bS b ++ [.vec 4 b.l.length (flat pkC b.l)] ∧ i ≤ 40 ∧ Inv i b ∧ k = 40 - i) 40
    (Start.of [0, 1, 5, 6, 7] [] (by simp)) ⟨0, ⟨0, [], 0, []⟩, rfl, rfl, by omega, ⟨by decide, by decide, by decide, by simp, by simp, by simp⟩, rfl⟩ ?_
  rintro k fr σ ⟨i, b, rfl, rfl, hi, hinv, rfl⟩
  have hlen := hinv.len
  by_cases hgo : i < l.length ∧ i < 40
  · obtain ⟨hil, hi4⟩ := hgo
    have c1 : decide ((i : Int) < (l.length : Int)) = true := decide_eq_true (by omega)
    have c2 : decide ((i : Int) < 40) = true := decide_eq_true (by omega)
    repeat (first | refine W.ite_t rfl ?_ | refine W.ite_f rfl ?_ | refine W.ite_t c1 ?_ | refine W.ite_t c2 ?_)
    obtain ⟨a, ha⟩ : ∃ x, l[i]? = some x := ⟨_, List.getElem?_eq_getElem hil⟩
    refine W.need (ix_ok sC_len (by decide) hil) ?_
    refine W.ld (sE ha) ?_
    have g4 : IntKind.i64.wrap ((i : Int) + 1) = ((i + 1 : Nat) : Int) := by rw [wrap64 (by omega) (by omega)]; rfl
    by_cases h300 : a.size > 300
    · have c3 : decide ((a.size : Int) > 300) = true := decide_eq_true (by omega)
      refine W.ite_t c3 ?_
      refine W.need ⟨by omega, by show (300 : Int) ≤ (a.size : Int); omega⟩ ?_
      have hs : (a.extract 0 300).size ≤ 2000 := by rw [ByteArray.size_extract]; omega
      have ks := ok8S b i (IntKind.i64.wrap (2 * (i : Int))) (a.extract 0 300) hs (by omega) ⟨hinv.n0, by have := hinv.n1; omega⟩
      refine W.callT [0, 1] ks (by decide) rfl rfl rfl rfl ?_
      rintro v σ ⟨rfl, e', j', rfl⟩
      have hinv' := hinv.snoc i (IntKind.i64.wrap (2 * (i : Int))) (a.extract 0 300) hs e' j'
      repeat (first | refine W.ite_t rfl ?_ | refine W.ite_f rfl ?_)
      refine W.alt_l ?_
      refine W.need ⟨rfl, rfl, rfl, by omega, by omega, pkC_one ⟨b.n + 1, i, IntKind.i64.wrap (2 * (i : Int)), a.extract 0 300⟩⟩ ?_
      have hll : (b.l ++ [(⟨b.n + 1, i, IntKind.i64.wrap (2 * (i : Int)), a.extract 0 300⟩ : Pk)]).length = b.l.length + 1 := by simp
      refine W.ret ⟨_, _, _, ?_, Trim.of [0, 1, 5, 6, 7] [0, 1, 2] (by decide) (by show ∀ i ∈ [0, 1, 2], i < 3; simp) keep3, i + 1, ⟨b.n + 1, b.l ++ [⟨b.n + 1, i, IntKind.i64.wrap (2 * (i : Int)), a.extract 0 300⟩], e', j'⟩, ?_, ?_, by omega, hinv', rfl⟩
      · omega
      · simp only [hll]; rw [← g4]; rfl
      · simp only [hll]; rw [flat_append]; rfl
    · have c3 : decide ((a.size : Int) > 300) = false := decide_eq_false (by omega)
      refine W.ite_f c3 ?_
      have hs : (a).size ≤ 2000 := by omega
      have ks := ok8S b i (IntKind.i64.wrap (2 * (i : Int))) (a) hs (by omega) ⟨hinv.n0, by have := hinv.n1; omega⟩
      refine W.callT [0, 1] ks (by decide) rfl rfl rfl rfl ?_
      rintro v σ ⟨rfl, e', j', rfl⟩
      have hinv' := hinv.snoc i (IntKind.i64.wrap (2 * (i : Int))) (a) hs e' j'
      repeat (first | refine W.ite_t rfl ?_ | refine W.ite_f rfl ?_)
      refine W.alt_l ?_
      refine W.need ⟨rfl, rfl, rfl, by omega, by omega, pkC_one ⟨b.n + 1, i, IntKind.i64.wrap (2 * (i : Int)), a⟩⟩ ?_
      have hll : (b.l ++ [(⟨b.n + 1, i, IntKind.i64.wrap (2 * (i : Int)), a⟩ : Pk)]).length = b.l.length + 1 := by simp
      refine W.ret ⟨_, _, _, ?_, Trim.of [0, 1, 5, 6, 7] [0, 1, 2] (by decide) (by show ∀ i ∈ [0, 1, 2], i < 3; simp) keep3, i + 1, ⟨b.n + 1, b.l ++ [⟨b.n + 1, i, IntKind.i64.wrap (2 * (i : Int)), a⟩], e', j'⟩, ?_, ?_, by omega, hinv', rfl⟩
      · omega
      · simp only [hll]; rw [← g4]; rfl
      · simp only [hll]; rw [flat_append]; rfl
  · have split2 : (decide ((i : Int) < (l.length : Int)) = false) ∨ (decide ((i : Int) < (l.length : Int)) = true ∧ decide ((i : Int) < 40) = false) := by
      by_cases h : i < l.length
      · exact .inr ⟨decide_eq_true (by omega), decide_eq_false (by omega)⟩
      · exact .inl (decide_eq_false (by omega))
    obtain ⟨bn, S, e0, j0⟩ := b
    have hS := hinv.srt
    simp only at hlen hS
    clear hinv
    rcases split2 with c1 | ⟨c1, c2⟩
    · repeat (first | refine W.ite_t rfl ?_ | refine W.ite_f rfl ?_ | refine W.ite_f c1 ?_)
      refine W.ret ?_
      refine W.loop (fun k fr σ => ∃ (q : Nat) (L : List Pk) (j : List D), fr = [(1, slF iC o), (5, .ptr 1 0), (6, .vec 2 S.length), (11, .d (nI q))] ∧ σ = bS ⟨bn, L, e0, j⟩ ++ [.vec 4 S.length (flat pkC S)] ∧ q ≤ 40 ∧ L.Sublist S ∧ k = 40 - q) 40
        (Start.of [1, 5, 6, 11] [] (by simp)) ⟨0, S, j0, rfl, rfl, by omega, List.Sublist.refl _, rfl⟩ ?_
      rintro k fr σ ⟨q, L, j, rfl, rfl, hq, hsub, rfl⟩
      have hLl : L.length ≤ S.length := hsub.length_le
      by_cases hgo2 : q < o.length ∧ q < 40
      · obtain ⟨hql, hq4⟩ := hgo2
        have d1 : decide ((q : Int) < (o.length : Int)) = true := decide_eq_true (by omega)
        have d2 : decide ((q : Int) < 40) = true := decide_eq_true (by omega)
        repeat (first | refine W.ite_t rfl ?_ | refine W.ite_f rfl ?_ | refine W.ite_t d1 ?_ | refine W.ite_t d2 ?_)
        obtain ⟨m, hm⟩ : ∃ x, o[q]? = some x := ⟨_, List.getElem?_eq_getElem hql⟩
        have g5 : IntKind.i64.wrap ((q : Int) + 1) = ((q + 1 : Nat) : Int) := by rw [wrap64 (by omega) (by omega)]; rfl
        refine W.need (ix_ok iC_len (by decide) hql) ?_
        refine W.ld (iE hm) ?_
        by_cases hneg : m < 0
        · have d3 : decide (m < 0) = true := decide_eq_true hneg
          repeat (first | refine W.ite_t rfl ?_ | refine W.ite_f rfl ?_ | refine W.ite_t d3 ?_)
          refine W.ret ⟨_, _, _, ?_, Trim.of [1, 5, 6, 11] [0, 1, 2] (by decide) (by show ∀ i ∈ [0, 1, 2], i < 3; simp) keep3, q + 1, L, j, ?_, rfl, by omega, hsub, rfl⟩
          · omega
          · rw [← g5]; rfl
        have d3 : decide (m < 0) = false := decide_eq_false hneg
        obtain ⟨m, rfl⟩ := Int.eq_ofNat_of_zero_le (show 0 ≤ m by omega)
        refine W.ite_f d3 ?_
        repeat (first | refine W.ite_t rfl ?_ | refine W.ite_f rfl ?_ | refine W.ite_f d3 ?_)
        refine W.need (ix_ok iC_len (by decide) hql) ?_
        repeat (first | refine W.ite_t rfl ?_ | refine W.ite_f rfl ?_ | refine W.ite_f d3 ?_)
        refine W.ld (xs := [nI ((m : Nat) : Int)]) (iE hm) ?_
        by_cases hbig : m ≥ S.length
        · have d4 : decide (((m : Nat) : Int) ≥ (S.length : Int)) = true := decide_eq_true (by omega)
          repeat (first | refine W.ite_t rfl ?_ | refine W.ite_f rfl ?_ | refine W.ite_f d3 ?_ | refine W.ite_t d4 ?_)
          refine W.ret ⟨_, _, _, ?_, Trim.of [1, 5, 6, 11] [0, 1, 2] (by decide) (by show ∀ i ∈ [0, 1, 2], i < 3; simp) keep3, q + 1, L, j, ?_, rfl, by omega, hsub, rfl⟩
          · omega
          · rw [← g5]; rfl
        have d4 : decide (((m : Nat) : Int) ≥ (S.length : Int)) = false := decide_eq_false (by omega)
        repeat (first | refine W.ite_t rfl ?_ | refine W.ite_f rfl ?_ | refine W.ite_f d3 ?_ | refine W.ite_f d4 ?_)
        have hmS : m < S.length := by omega
        obtain ⟨w, hw⟩ : ∃ x, S[m]? = some x := ⟨_, List.getElem?_eq_getElem hmS⟩
        have hwS := List.mem_of_getElem? hw
        refine W.need (ix_ok iC_len (by decide) hql) ?_
        refine W.ld (xs := [nI ((m : Nat) : Int)]) (iE hm) ?_
        refine W.need (ix_row pkC_len (by decide) hmS) ?_
        refine W.ld (pkV hw) ?_
        have hLs : L.Pairwise fun p q => p.id < q.id := hS.sublist hsub
        rcases ix_cases w.id L with hx | ⟨kk, p, hx, hp⟩
        · have k1 := ok9N ⟨bn, L, e0, j⟩ w.id (by simp only; omega) hx
          refine W.callF [0, 1] (bS ⟨bn, L, e0, j⟩ ++ [.vec 4 S.length (flat pkC S), .var [.d (nI w.id), .d (nI w.fr), .d (nI w.to), .d (sD w.tx)]]) k1 (by decide) rfl rfl rfl rfl rfl rfl ?_
          refine W.callF [0, 1] (bS ⟨bn, L, e0, j⟩ ++ [.vec 4 S.length (flat pkC S), .var [.d (nI w.id), .d (nI w.fr), .d (nI w.to), .d (sD w.tx)], .var [.d (nI 0), .d (nI 0), .d (nI 0), .d (sD ⟨#[]⟩)]]) k1 (by decide) rfl rfl rfl rfl rfl rfl ?_
          refine W.pure (Er.okIs bagW 0 9 9) rfl rfl ?_
          repeat (first | refine W.ite_t rfl ?_ | refine W.ite_f rfl ?_ | refine W.ite_f (by simp [ba_refl]) ?_ | refine W.ite_t (by simp [ba_refl]) ?_)
          refine W.ret ⟨_, _, _, ?_, Trim.of [1, 5, 6, 11] [0, 1, 2] (by decide) (by show ∀ i ∈ [0, 1, 2], i < 6; simp) keep3, q + 1, L, j, ?_, rfl, by omega, hsub, rfl⟩
          · omega
          · rw [← g5]; rfl
        · have hpw : p = w := one_id hS (hsub.subset (List.mem_of_getElem? hp)) hwS (ix_id hx hp)
          subst hpw
          have k1 := ok9S ⟨bn, L, e0, j⟩ p.id (by simp only; omega) hx hp
          have hgone := ix_gone hLs hp
          have hel := List.length_eraseIdx_le L kk
          have k2 := ok9N ⟨bn, L.eraseIdx kk, e0, pkC pk0 ++ j⟩ p.id (by simp only; omega) hgone
          refine W.callF [0, 1] (bS ⟨bn, L.eraseIdx kk, e0, pkC pk0 ++ j⟩ ++ [.vec 4 S.length (flat pkC S), .var [.d (nI p.id), .d (nI p.fr), .d (nI p.to), .d (sD p.tx)]]) k1 (by decide) rfl rfl rfl rfl rfl rfl ?_
          refine W.callF [0, 1] (bS ⟨bn, L.eraseIdx kk, e0, pkC pk0 ++ j⟩ ++ [.vec 4 S.length (flat pkC S), .var [.d (nI p.id), .d (nI p.fr), .d (nI p.to), .d (sD p.tx)], .var [.d (nI p.id), .d (nI p.fr), .d (nI p.to), .d (sD p.tx)]]) k2 (by decide) rfl rfl rfl rfl rfl rfl ?_
          refine W.pure (Er.okIs bagW 0 9 9) rfl rfl ?_
          repeat (first | refine W.ite_t rfl ?_ | refine W.ite_f rfl ?_ | refine W.ite_f (by simp [ba_refl]) ?_ | refine W.ite_t (by simp [ba_refl]) ?_)
          refine W.ret ⟨_, _, _, ?_, Trim.of [1, 5, 6, 11] [0, 1, 2] (by decide) (by show ∀ i ∈ [0, 1, 2], i < 6; simp) keep3, q + 1, L.eraseIdx kk, pkC pk0 ++ j, ?_, rfl, by omega, (List.eraseIdx_sublist L kk).trans hsub, rfl⟩
          · omega
          · rw [← g5]; rfl
      · have split3 : (decide ((q : Int) < (o.length : Int)) = false) ∨ (decide ((q : Int) < (o.length : Int)) = true ∧ decide ((q : Int) < 40) = false) := by
          by_cases h : q < o.length
          · exact .inr ⟨decide_eq_true (by omega), decide_eq_false (by omega)⟩
          · exact .inl (decide_eq_false (by omega))
        rcases split3 with d1 | ⟨d1, d2⟩
        · repeat (first | refine W.ite_t rfl ?_ | refine W.ite_f rfl ?_ | refine W.ite_f d1 ?_)
          refine W.ret ?_
          refine W.pure ok11 rfl rfl ?_
          exact W.ret (RetQ.pure rfl rfl)
        · repeat (first | refine W.ite_t rfl ?_ | refine W.ite_f rfl ?_ | refine W.ite_t d1 ?_ | refine W.ite_f d2 ?_)
          refine W.ret ?_
          refine W.pure ok11 rfl rfl ?_
          exact W.ret (RetQ.pure rfl rfl)
    · repeat (first | refine W.ite_t rfl ?_ | refine W.ite_f rfl ?_ | refine W.ite_t c1 ?_ | refine W.ite_f c2 ?_)
      refine W.ret ?_
      refine W.loop (fun k fr σ => ∃ (q : Nat) (L : List Pk) (j : List D), fr = [(1, slF iC o), (5, .ptr 1 0), (6, .vec 2 S.length), (11, .d (nI q))] ∧ σ = bS ⟨bn, L, e0, j⟩ ++ [.vec 4 S.length (flat pkC S)] ∧ q ≤ 40 ∧ L.Sublist S ∧ k = 40 - q) 40
        (Start.of [1, 5, 6, 11] [] (by simp)) ⟨0, S, j0, rfl, rfl, by omega, List.Sublist.refl _, rfl⟩ ?_
      rintro k fr σ ⟨q, L, j, rfl, rfl, hq, hsub, rfl⟩
      have hLl : L.length ≤ S.length := hsub.length_le
      by_cases hgo2 : q < o.length ∧ q < 40
      · obtain ⟨hql, hq4⟩ := hgo2
        have d1 : decide ((q : Int) < (o.length : Int)) = true := decide_eq_true (by omega)
        have d2 : decide ((q : Int) < 40) = true := decide_eq_true (by omega)
        repeat (first | refine W.ite_t rfl ?_ | refine W.ite_f rfl ?_ | refine W.ite_t d1 ?_ | refine W.ite_t d2 ?_)
        obtain ⟨m, hm⟩ : ∃ x, o[q]? = some x := ⟨_, List.getElem?_eq_getElem hql⟩
        have g5 : IntKind.i64.wrap ((q : Int) + 1) = ((q + 1 : Nat) : Int) := by rw [wrap64 (by omega) (by omega)]; rfl
        refine W.need (ix_ok iC_len (by decide) hql) ?_
        refine W.ld (iE hm) ?_
        by_cases hneg : m < 0
        · have d3 : decide (m < 0) = true := decide_eq_true hneg
          repeat (first | refine W.ite_t rfl ?_ | refine W.ite_f rfl ?_ | refine W.ite_t d3 ?_)
          refine W.ret ⟨_, _, _, ?_, Trim.of [1, 5, 6, 11] [0, 1, 2] (by decide) (by show ∀ i ∈ [0, 1, 2], i < 3; simp) keep3, q + 1, L, j, ?_, rfl, by omega, hsub, rfl⟩
          · omega
          · rw [← g5]; rfl
        have d3 : decide (m < 0) = false := decide_eq_false hneg
        obtain ⟨m, rfl⟩ := Int.eq_ofNat_of_zero_le (show 0 ≤ m by omega)
        refine W.ite_f d3 ?_
        repeat (first | refine W.ite_t rfl ?_ | refine W.ite_f rfl ?_ | refine W.ite_f d3 ?_)
        refine W.need (ix_ok iC_len (by decide) hql) ?_
        repeat (first | refine W.ite_t rfl ?_ | refine W.ite_f rfl ?_ | refine W.ite_f d3 ?_)
        refine W.ld (xs := [nI ((m : Nat) : Int)]) (iE hm) ?_
        by_cases hbig : m ≥ S.length
        · have d4 : decide (((m : Nat) : Int) ≥ (S.length : Int)) = true := decide_eq_true (by omega)
          repeat (first | refine W.ite_t rfl ?_ | refine W.ite_f rfl ?_ | refine W.ite_f d3 ?_ | refine W.ite_t d4 ?_)
          refine W.ret ⟨_, _, _, ?_, Trim.of [1, 5, 6, 11] [0, 1, 2] (by decide) (by show ∀ i ∈ [0, 1, 2], i < 3; simp) keep3, q + 1, L, j, ?_, rfl, by omega, hsub, rfl⟩
          · omega
          · rw [← g5]; rfl
        have d4 : decide (((m : Nat) : Int) ≥ (S.length : Int)) = false := decide_eq_false (by omega)
        repeat (first | refine W.ite_t rfl ?_ | refine W.ite_f rfl ?_ | refine W.ite_f d3 ?_ | refine W.ite_f d4 ?_)
        have hmS : m < S.length := by omega
        obtain ⟨w, hw⟩ : ∃ x, S[m]? = some x := ⟨_, List.getElem?_eq_getElem hmS⟩
        have hwS := List.mem_of_getElem? hw
        refine W.need (ix_ok iC_len (by decide) hql) ?_
        refine W.ld (xs := [nI ((m : Nat) : Int)]) (iE hm) ?_
        refine W.need (ix_row pkC_len (by decide) hmS) ?_
        refine W.ld (pkV hw) ?_
        have hLs : L.Pairwise fun p q => p.id < q.id := hS.sublist hsub
        rcases ix_cases w.id L with hx | ⟨kk, p, hx, hp⟩
        · have k1 := ok9N ⟨bn, L, e0, j⟩ w.id (by simp only; omega) hx
          refine W.callF [0, 1] (bS ⟨bn, L, e0, j⟩ ++ [.vec 4 S.length (flat pkC S), .var [.d (nI w.id), .d (nI w.fr), .d (nI w.to), .d (sD w.tx)]]) k1 (by decide) rfl rfl rfl rfl rfl rfl ?_
          refine W.callF [0, 1] (bS ⟨bn, L, e0, j⟩ ++ [.vec 4 S.length (flat pkC S), .var [.d (nI w.id), .d (nI w.fr), .d (nI w.to), .d (sD w.tx)], .var [.d (nI 0), .d (nI 0), .d (nI 0), .d (sD ⟨#[]⟩)]]) k1 (by decide) rfl rfl rfl rfl rfl rfl ?_
          refine W.pure (Er.okIs bagW 0 9 9) rfl rfl ?_
          repeat (first | refine W.ite_t rfl ?_ | refine W.ite_f rfl ?_ | refine W.ite_f (by simp [ba_refl]) ?_ | refine W.ite_t (by simp [ba_refl]) ?_)
          refine W.ret ⟨_, _, _, ?_, Trim.of [1, 5, 6, 11] [0, 1, 2] (by decide) (by show ∀ i ∈ [0, 1, 2], i < 6; simp) keep3, q + 1, L, j, ?_, rfl, by omega, hsub, rfl⟩
          · omega
          · rw [← g5]; rfl
        · have hpw : p = w := one_id hS (hsub.subset (List.mem_of_getElem? hp)) hwS (ix_id hx hp)
          subst hpw
          have k1 := ok9S ⟨bn, L, e0, j⟩ p.id (by simp only; omega) hx hp
          have hgone := ix_gone hLs hp
          have hel := List.length_eraseIdx_le L kk
          have k2 := ok9N ⟨bn, L.eraseIdx kk, e0, pkC pk0 ++ j⟩ p.id (by simp only; omega) hgone
          refine W.callF [0, 1] (bS ⟨bn, L.eraseIdx kk, e0, pkC pk0 ++ j⟩ ++ [.vec 4 S.length (flat pkC S), .var [.d (nI p.id), .d (nI p.fr), .d (nI p.to), .d (sD p.tx)]]) k1 (by decide) rfl rfl rfl rfl rfl rfl ?_
          refine W.callF [0, 1] (bS ⟨bn, L.eraseIdx kk, e0, pkC pk0 ++ j⟩ ++ [.vec 4 S.length (flat pkC S), .var [.d (nI p.id), .d (nI p.fr), .d (nI p.to), .d (sD p.tx)], .var [.d (nI p.id), .d (nI p.fr), .d (nI p.to), .d (sD p.tx)]]) k2 (by decide) rfl rfl rfl rfl rfl rfl ?_
          refine W.pure (Er.okIs bagW 0 9 9) rfl rfl ?_
          repeat (first | refine W.ite_t rfl ?_ | refine W.ite_f rfl ?_ | refine W.ite_f (by simp [ba_refl]) ?_ | refine W.ite_t (by simp [ba_refl]) ?_)
          refine W.ret ⟨_, _, _, ?_, Trim.of [1, 5, 6, 11] [0, 1, 2] (by decide) (by show ∀ i ∈ [0, 1, 2], i < 6; simp) keep3, q + 1, L.eraseIdx kk, pkC pk0 ++ j, ?_, rfl, by omega, (List.eraseIdx_sublist L kk).trans hsub, rfl⟩
          · omega
          · rw [← g5]; rfl
      · have split3 : (decide ((q : Int) < (o.length : Int)) = false) ∨ (decide ((q : Int) < (o.length : Int)) = true ∧ decide ((q : Int) < 40) = false) := by
          by_cases h : q < o.length
          · exact .inr ⟨decide_eq_true (by omega), decide_eq_false (by omega)⟩
          · exact .inl (decide_eq_false (by omega))
        rcases split3 with d1 | ⟨d1, d2⟩
        · repeat (first | refine W.ite_t rfl ?_ | refine W.ite_f rfl ?_ | refine W.ite_f d1 ?_)
          refine W.ret ?_
          refine W.pure ok11 rfl rfl ?_
          exact W.ret (RetQ.pure rfl rfl)
        · repeat (first | refine W.ite_t rfl ?_ | refine W.ite_f rfl ?_ | refine W.ite_t d1 ?_ | refine W.ite_f d2 ?_)
          refine W.ret ?_
          refine W.pure ok11 rfl rfl ?_
          exact W.ret (RetQ.pure rfl rfl)
end Go.Proofs.Ytemabpapfkplgaa.Bg
