import Derived.Test.YtemabpapfkplgaaBQ
import Derived.Test.YtemabpapfkplgaaBR
set_option maxRecDepth 100000
set_option linter.unusedVariables false
set_option linter.unusedSimpArgs false
/- The statement BagPurged. -/
namespace Go.Proofs.Ytemabpapfkplgaa.Bg
open Go Go.Am
def od7 : Ords := []
theorem code7 : codeB Try.f7.ntmps od7 (match Try.f7.body with | some c => c | none => .skip) = true := by kernel_rfl
abbrev toB (x : Int) : Pk → Bool := fun p => p.to == x
theorem rest_snoc (t : Pk → Bool) (l : List Pk) (p : Pk) : (rest t (l ++ [p])).length = (rest t l).length + if t p = true then 0 else 1 := by
  unfold rest
  rw [List.filter_append, List.length_append]
  by_cases h : t p = true
  · rw [if_pos h]; simp [h]
  · have h' : t p = false := by simpa using h
    rw [if_neg h]; simp [h']
theorem rest_rest (t : Pk → Bool) (l : List Pk) : rest t (rest t l) = rest t l := rest_all fun p hp => by
  have := (List.mem_filter.1 hp).2
  simpa using this
set_option maxHeartbeats 8000000 in
theorem ok7 (l : List Int) (x : Int) : Go.Am.Pure Try.prog 7 [slF iC l, .d (nI x)] (bI true) := by
  refine CallOk.of tysOk mixed od7 Try.func7 rfl rfl code7 ?_
  refine W.loop (fun k fr σ => ∃ (i c : Nat) (b : B), fr = [(0, slF iC l), (1, .d (nI x)), (5, .ptr 1 0), (6, .d (nI c)), (7, .d (nI i))] ∧ σ = bS b ∧ i ≤ 40 ∧ i ≤ l.length ∧ Inv i b ∧ (∀ p ∈ b.l, 1 ≤ p.id) ∧ b.l.length = i ∧ c + (rest (toB x) b.l).length = i ∧ k = 40 - i) 40
    (Start.of [0, 1, 5, 6, 7] [] (by simp)) ⟨0, 0, ⟨0, [], 0, []⟩, rfl, rfl, by omega, by omega, ⟨by decide, by decide, by decide, by simp, by simp, by simp⟩, by simp, rfl, rfl, rfl⟩ ?_
  rintro k fr σ ⟨i, c, b, rfl, rfl, hi, hi2, hinv, hone, hbl, hc, rfl⟩
  by_cases hgo : i < l.length ∧ i < 40
  · obtain ⟨hil, hi4⟩ := hgo
    have c1 : decide ((i : Int) < (l.length : Int)) = true := decide_eq_true (by omega)
    have c2 : decide ((i : Int) < 40) = true := decide_eq_true (by omega)
    repeat (first | refine W.ite_t rfl ?_ | refine W.ite_f rfl ?_ | refine W.ite_t c1 ?_ | refine W.ite_t c2 ?_)
    obtain ⟨a, ha⟩ : ∃ x, l[i]? = some x := ⟨_, List.getElem?_eq_getElem hil⟩
    refine W.need (ix_ok iC_len (by decide) hil) ?_
    refine W.ld (iE ha) ?_
    have g1 : IntKind.i64.wrap ((i : Int) + 1) = ((i + 1 : Nat) : Int) := by rw [wrap64 (by omega) (by omega)]; rfl
    have g2 : IntKind.i64.wrap ((c : Int) + 1) = ((c + 1 : Nat) : Int) := by rw [wrap64 (by omega) (by omega)]; rfl
    have n0 := hinv.n0
    have n1 := hinv.n1
    have ks := ok8S b i a xS (by decide) (by omega) ⟨n0, by omega⟩
    refine W.callT [0, 1] ks (by decide) rfl rfl rfl rfl ?_
    rintro v σ ⟨rfl, e', j', rfl⟩
    have hinv' := hinv.snoc i a xS (by decide) e' j'
    have hone' : ∀ p ∈ b.l ++ [(⟨b.n + 1, i, a, xS⟩ : Pk)], 1 ≤ p.id := fun p hp => by
      rcases List.mem_append.1 hp with hp | hp
      · exact hone p hp
      · obtain rfl := List.mem_singleton.1 hp; show 1 ≤ b.n + 1; omega
    have hlen' : (b.l ++ [(⟨b.n + 1, i, a, xS⟩ : Pk)]).length = i + 1 := by simp [hbl]
    have hr := rest_snoc (toB x) b.l ⟨b.n + 1, i, a, xS⟩
    repeat (first | refine W.ite_t rfl ?_ | refine W.ite_f rfl ?_)
    refine W.need (ix_ok iC_len (by decide) hil) ?_
    refine W.ld (iE ha) ?_
    by_cases hax : a = x
    · have c3 : (a == x) = true := by rw [beq_int]; exact decide_eq_true hax
      rw [if_pos c3] at hr
      refine W.ite_t c3 ?_
      refine W.ret ⟨_, _, _, ?_, Trim.of [0, 1, 5, 6, 7] [0, 1] (by decide) (by show ∀ i ∈ [0, 1], i < 2; simp) keep2, i + 1, c + 1, ⟨b.n + 1, b.l ++ [⟨b.n + 1, i, a, xS⟩], e', j'⟩, ?_, rfl, by omega, by omega, hinv', hone', hlen', by simp only; omega, rfl⟩
      · omega
      · rw [← g1, ← g2]; rfl
    · have c3 : (a == x) = false := by rw [beq_int]; exact decide_eq_false hax
      rw [if_neg (by show ¬ (a == x) = true; rw [c3]; simp)] at hr
      refine W.ite_f c3 ?_
      refine W.ret ⟨_, _, _, ?_, Trim.of [0, 1, 5, 6, 7] [0, 1] (by decide) (by show ∀ i ∈ [0, 1], i < 2; simp) keep2, i + 1, c, ⟨b.n + 1, b.l ++ [⟨b.n + 1, i, a, xS⟩], e', j'⟩, ?_, rfl, by omega, by omega, hinv', hone', hlen', by simp only; omega, rfl⟩
      · omega
      · rw [← g1]; rfl
  · have hR := rest_le (toB x) b.l
    have hsrt : (rest (toB x) b.l).Pairwise fun p q => p.id < q.id := hinv.srt.sublist List.filter_sublist
    have hmem : ∀ p ∈ rest (toB x) b.l, 1 ≤ p.id ∧ (p.to == x) = false := fun p hp => by
      obtain ⟨h1, h2⟩ := List.mem_filter.1 hp
      exact ⟨hone p h1, by simpa using h2⟩
    have kp := ok15 b x (by omega)
    have hcc : ((b.l.length : Int) - ((rest (toB x) b.l).length : Int) != (c : Int)) = false := by
      have : (b.l.length : Int) - ((rest (toB x) b.l).length : Int) = c := by omega
      rw [this]; simp
    have kp2 : ∀ j', CallOk Try.prog 15 [.ptr 1 0, .d (nI x)] (bS ⟨b.n, rest (toB x) b.l, b.e, j'⟩) (fun v s => v = .d (nI 0) ∧ ∃ j', s = bS ⟨b.n, rest (toB x) b.l, b.e, j'⟩) := fun j' =>
      (ok15 ⟨b.n, rest (toB x) b.l, b.e, j'⟩ x (by simp only; omega)).mono fun v s ⟨h1, h2⟩ => by
        rw [show rest (fun p => p.to == x) (rest (toB x) b.l) = rest (toB x) b.l from rest_rest _ _] at h1 h2
        exact ⟨by rw [h1, Int.sub_self], h2⟩
    have hmin : (if (40 : Int) < (l.length : Int) then (40 : Int) else (l.length : Int)) = i := by split <;> omega
    have e9 : (((rest (toB x) b.l).length : Int) == IntKind.i64.wrap ((if (40 : Int) < (l.length : Int) then (40 : Int) else (l.length : Int)) - (c : Int))) = true := by
      rw [hmin, wrap64 (by omega) (by omega), beq_int]; exact decide_eq_true (by omega)
    have split2 : (decide ((i : Int) < (l.length : Int)) = false) ∨ (decide ((i : Int) < (l.length : Int)) = true ∧ decide ((i : Int) < 40) = false) := by
      by_cases h : i < l.length
      · exact .inr ⟨decide_eq_true (by omega), decide_eq_false (by omega)⟩
      · exact .inl (decide_eq_false (by omega))
    have kA : ∀ j', CallOk Try.prog 14 [.ptr 1 0] (bS ⟨b.n, rest (toB x) b.l, b.e, j'⟩) (fun v s => v = slP (rest (toB x) b.l) ∧ s = bS ⟨b.n, rest (toB x) b.l, b.e, j'⟩) := fun j' => ok14 ⟨b.n, rest (toB x) b.l, b.e, j'⟩ (by simp only; omega)
    have kL : ∀ j', CallOk Try.prog 13 [.ptr 1 0] (bS ⟨b.n, rest (toB x) b.l, b.e, j'⟩) (fun v s => v = .d (nI (rest (toB x) b.l).length) ∧ s = bS ⟨b.n, rest (toB x) b.l, b.e, j'⟩) := fun j' => ok13 ⟨b.n, rest (toB x) b.l, b.e, j'⟩
    rcases split2 with c1 | ⟨c1, c2⟩
    · repeat (first | refine W.ite_t rfl ?_ | refine W.ite_f rfl ?_ | refine W.ite_f c1 ?_)
      refine W.ret ?_
      refine W.callT [0, 1] kp (by decide) rfl rfl rfl rfl ?_
      rintro v σ ⟨rfl, j1, rfl⟩
      repeat (first | refine W.ite_t rfl ?_ | refine W.ite_f rfl ?_ | refine W.ite_f hcc ?_)
      refine W.callT [0, 1] (kp2 j1) (by decide) rfl rfl rfl rfl ?_
      rintro v σ ⟨rfl, j2, rfl⟩
      repeat (first | refine W.ite_t rfl ?_ | refine W.ite_f rfl ?_ | refine W.ite_f hcc ?_)
      refine W.callF [0, 1] (bS ⟨b.n, rest (toB x) b.l, b.e, j2⟩) (kA j2) (by decide) rfl rfl rfl rfl rfl rfl ?_
      refine W.loop (fun k fr σ => ∃ (q : Nat) (last : Int), fr = [(0, slF iC l), (1, .d (nI x)), (5, .ptr 1 0), (6, .d (nI c)), (10, .d (nI last)), (51, slP (rest (toB x) b.l)), (52, .d (nI (rest (toB x) b.l).length)), (53, .d (nI q))] ∧ σ = bS ⟨b.n, rest (toB x) b.l, b.e, j2⟩ ∧ q ≤ (rest (toB x) b.l).length ∧ (∀ m p, q ≤ m → (rest (toB x) b.l)[m]? = some p → last < p.id) ∧ k = (rest (toB x) b.l).length - q) (rest (toB x) b.l).length
        (Start.of [0, 1, 5, 6, 10, 51, 52, 53] [] (by simp)) ⟨0, 0, rfl, rfl, by omega, fun m p _ hp => by have := (hmem p (List.mem_of_getElem? hp)).1; omega, rfl⟩ ?_
      rintro k fr σ ⟨q, last, rfl, rfl, hq, hlast, rfl⟩
      refine W.ite (fun d3 => ?_) (fun d3 => ?_)
      · have hql : q < (rest (toB x) b.l).length := by have := of_decide_eq_true d3; omega
        obtain ⟨p, hp⟩ : ∃ p, (rest (toB x) b.l)[q]? = some p := ⟨_, List.getElem?_eq_getElem hql⟩
        have hpm := hmem p (List.mem_of_getElem? hp)
        have hpl := hlast q p (Nat.le_refl _) hp
        have c5 := hpm.2
        have c6 : decide (p.id ≤ last) = false := decide_eq_false (by omega)
        refine W.need (ix_ok pkC_len (by decide) hql) ?_
        refine W.ld (pkD hp) ?_
        repeat (first | refine W.ite_t rfl ?_ | refine W.ite_f rfl ?_ | refine W.ite_f c5 ?_ | refine W.ite_f c6 ?_)
        have g1 : IntKind.i64.wrap ((q : Int) + 1) = ((q + 1 : Nat) : Int) := by rw [wrap64 (by omega) (by omega)]; rfl
        refine W.ret ⟨_, _, _, ?_, Trim.of [0, 1, 5, 6, 10, 51, 52, 53] [0, 1] (by decide) (by simp) keep2, q + 1, p.id, ?_, rfl, by omega, ?_, rfl⟩
        · omega
        · rw [← g1]; rfl
        · intro m p' hm hp'
          obtain ⟨z1, z2⟩ := List.getElem?_eq_some_iff.1 hp
          obtain ⟨z3, z4⟩ := List.getElem?_eq_some_iff.1 hp'
          have := List.pairwise_iff_getElem.1 hsrt q m z1 z3 (by omega)
          rw [z2, z4] at this
          exact this
      · refine W.ret ?_
        refine W.pure ok11 rfl rfl ?_
        repeat (first | refine W.ite_t rfl ?_ | refine W.ite_f rfl ?_)
        refine W.callF [0, 1] (bS ⟨b.n, rest (toB x) b.l, b.e, j2⟩) (kL j2) (by decide) rfl rfl rfl rfl rfl rfl ?_
        repeat (first | refine W.ite_t rfl ?_ | refine W.ite_f rfl ?_)
        exact W.ret (RetQ.pure rfl (ret_bI e9))
    · repeat (first | refine W.ite_t rfl ?_ | refine W.ite_f rfl ?_ | refine W.ite_t c1 ?_ | refine W.ite_f c2 ?_)
      refine W.ret ?_
      refine W.callT [0, 1] kp (by decide) rfl rfl rfl rfl ?_
      rintro v σ ⟨rfl, j1, rfl⟩
      repeat (first | refine W.ite_t rfl ?_ | refine W.ite_f rfl ?_ | refine W.ite_f hcc ?_)
      refine W.callT [0, 1] (kp2 j1) (by decide) rfl rfl rfl rfl ?_
      rintro v σ ⟨rfl, j2, rfl⟩
      repeat (first | refine W.ite_t rfl ?_ | refine W.ite_f rfl ?_ | refine W.ite_f hcc ?_)
      refine W.callF [0, 1] (bS ⟨b.n, rest (toB x) b.l, b.e, j2⟩) (kA j2) (by decide) rfl rfl rfl rfl rfl rfl ?_
      refine W.loop (fun k fr σ => ∃ (q : Nat) (last : Int), fr = [(0, slF iC l), (1, .d (nI x)), (5, .ptr 1 0), (6, .d (nI c)), (10, .d (nI last)), (51, slP (rest (toB x) b.l)), (52, .d (nI (rest (toB x) b.l).length)), (53, .d (nI q))] ∧ σ = bS ⟨b.n, rest (toB x) b.l, b.e, j2⟩ ∧ q ≤ (rest (toB x) b.l).length ∧ (∀ m p, q ≤ m → (rest (toB x) b.l)[m]? = some p → last < p.id) ∧ k = (rest (toB x) b.l).length - q) (rest (toB x) b.l).length
        (Start.of [0, 1, 5, 6, 10, 51, 52, 53] [] (by simp)) ⟨0, 0, rfl, rfl, by omega, fun m p _ hp => by have := (hmem p (List.mem_of_getElem? hp)).1; omega, rfl⟩ ?_
      rintro k fr σ ⟨q, last, rfl, rfl, hq, hlast, rfl⟩
      refine W.ite (fun d3 => ?_) (fun d3 => ?_)
      · have hql : q < (rest (toB x) b.l).length := by have := of_decide_eq_true d3; omega
        obtain ⟨p, hp⟩ : ∃ p, (rest (toB x) b.l)[q]? = some p := ⟨_, List.getElem?_eq_getElem hql⟩
        have hpm := hmem p (List.mem_of_getElem? hp)
        have hpl := hlast q p (Nat.le_refl _) hp
        have c5 := hpm.2
        have c6 : decide (p.id ≤ last) = false := decide_eq_false (by omega)
        refine W.need (ix_ok pkC_len (by decide) hql) ?_
        refine W.ld (pkD hp) ?_
        repeat (first | refine W.ite_t rfl ?_ | refine W.ite_f rfl ?_ | refine W.ite_f c5 ?_ | refine W.ite_f c6 ?_)
        have g1 : IntKind.i64.wrap ((q : Int) + 1) = ((q + 1 : Nat) : Int) := by rw [wrap64 (by omega) (by omega)]; rfl
        refine W.ret ⟨_, _, _, ?_, Trim.of [0, 1, 5, 6, 10, 51, 52, 53] [0, 1] (by decide) (by simp) keep2, q + 1, p.id, ?_, rfl, by omega, ?_, rfl⟩
        · omega
        · rw [← g1]; rfl
        · intro m p' hm hp'
          obtain ⟨z1, z2⟩ := List.getElem?_eq_some_iff.1 hp
          obtain ⟨z3, z4⟩ := List.getElem?_eq_some_iff.1 hp'
          have := List.pairwise_iff_getElem.1 hsrt q m z1 z3 (by omega)
          rw [z2, z4] at this
          exact this
      · refine W.ret ?_
        refine W.pure ok11 rfl rfl ?_
        repeat (first | refine W.ite_t rfl ?_ | refine W.ite_f rfl ?_)
        refine W.callF [0, 1] (bS ⟨b.n, rest (toB x) b.l, b.e, j2⟩) (kL j2) (by decide) rfl rfl rfl rfl rfl rfl ?_
        repeat (first | refine W.ite_t rfl ?_ | refine W.ite_f rfl ?_)
        exact W.ret (RetQ.pure rfl (ret_bI e9))
end Go.Proofs.Ytemabpapfkplgaa.Bg
