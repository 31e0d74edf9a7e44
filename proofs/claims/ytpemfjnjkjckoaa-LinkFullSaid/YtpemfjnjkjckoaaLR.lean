import Derived.Test.YtpemfjnjkjckoaaLT
set_option maxRecDepth 100000
set_option linter.unusedVariables false
set_option linter.unusedSimpArgs false
/- Layer 4: LinkBrings. -/
namespace Go.Proofs.Ytpemfjnjkjckoaa.Lk
open Go Go.Am Co
def od3 : Ords := []
theorem code3 : codeB Try.f3.ntmps od3 (match Try.f3.body with | some c => c | none => .skip) = true := by kernel_rfl
theorem two_or (a b : Bool) : (a = true ∧ b = true) ∨ a = false ∨ (a = true ∧ b = false) := by cases a <;> cases b <;> simp
theorem tr4 {n : Nat} (h : n = 4) : ∀ i, i < n → [0, 1, 2, 3][i]? = some i := fun i hi => by
  have : i = 0 ∨ i = 1 ∨ i = 2 ∨ i = 3 := by omega
  rcases this with rfl | rfl | rfl | rfl <;> rfl
theorem tr6 {n : Nat} (h : n = 6) : ∀ i, i < n → [0, 1, 2, 3, 4, 5][i]? = some i := fun i hi => by
  have : i = 0 ∨ i = 1 ∨ i = 2 ∨ i = 3 ∨ i = 4 ∨ i = 5 := by omega
  rcases this with rfl | rfl | rfl | rfl | rfl | rfl <;> rfl
theorem Trans.take {S R K Rs n s t b Dl} (h : Trans S R K Rs n s t b Dl) (hS : S.c ≤ 1000000) {j : Nat} (hj : j < K.length) :
    CallOk Try.prog 11 (.ptr 0 0 :: [sD (pk (n j) (S.c : Int) (s j))].map .d) (lkS (Rs j)) (fun v σ => v = tkA (t j, b j, .lit .nilIface) ∧ σ = lkS (Rs (j + 1))) :=
  takeOk (Rs j) (h.ok j (by omega)) (h.rn j hj) (by omega) (h.sz j hj) (h.step j hj)
abbrev vS (l : List ByteArray) : Blk := .vec 1 l.length (flat sC l)
theorem vS_snoc (l : List ByteArray) (s : ByteArray) : Blk.vec 1 (l.length + 1) (flat sC l ++ [sD s]) = vS (l ++ [s]) := by
  rw [show flat sC l ++ [sD s] = flat sC (l ++ [s]) from by rw [flat_append]; rfl, show l.length + 1 = (l ++ [s]).length from by simp]
theorem v_snoc (id : Nat) (l : List ByteArray) (s : ByteArray) : AV.vec id (l.length + 1) = .vec id (l ++ [s]).length := by rw [show l.length + 1 = (l ++ [s]).length from by simp]
theorem sl_all (l : List ByteArray) : AV.d (.sl l.length ((flat sC l).take (l.length * 1))) = slS l := by rw [flat_all sC_len]; rfl
set_option maxHeartbeats 16000000 in
theorem ok3 (A B : List ByteArray) : Go.Am.Pure Try.prog 3 [slS A, slS B] (bI true) := by
  refine CallOk.of tysOk mixed od3 Try.func3 rfl rfl code3 ?_
  have hXl := cutL_len A 64 100
  have hXs := cutL_size A 64 100
  have hXg := fun i t => @cutL_get A 64 100 i t
  generalize cutL A 64 100 = X at hXl hXs hXg
  have hYl := cutL_len B 64 100
  have hYs := cutL_size B 64 100
  have hYg := fun i t => @cutL_get B 64 100 i t
  generalize cutL B 64 100 = Y at hYl hYs hYg
  refine W.loop (fun k fr σ => ∃ i : Nat, fr = [(0, slS A), (1, slS B), (5, .ptr 0 0), (6, .ptr 1 0), (7, .vec 2 i), (8, .vec 3 0), (9, .d (nI i))] ∧ σ = [.var (lkC ⟨X.take i, 0, 0, false⟩), .var (lkC lk0), .vec 1 i (flat sC (X.take i)), .vec 1 0 []] ∧ i ≤ X.length ∧ k = X.length - i) X.length
    (Start.of [0, 1, 5, 6, 7, 8, 9] [] (by simp)) ⟨0, rfl, rfl, by omega, rfl⟩ ?_
  rintro k fr σ ⟨i, rfl, rfl, hi, rfl⟩
  rcases two_or (decide ((i : Int) < (A.length : Int))) (decide ((i : Int) < 64)) with ⟨h1, h2⟩ | h1 | ⟨h1, h2⟩
  case inl =>
    have p1 := of_decide_eq_true h1
    have p2 := of_decide_eq_true h2
    have hil : i < X.length := by omega
    obtain ⟨t, ht⟩ : ∃ t, A[i]? = some t := ⟨_, List.getElem?_eq_getElem (by omega)⟩
    have hx := hXg i t (by omega) ht
    repeat (first | refine W.ite_t h1 ?_ | refine W.ite_t h2 ?_ | refine W.ite_t rfl ?_ | refine W.ite_f rfl ?_)
    refine W.need (ix_ok (l := A) sC_len (by decide) (by omega)) ?_
    refine W.ld (sE ht) ?_
    refine W.pure (ok8 t 100) rfl rfl ?_
    refine W.lk 0 [.var (lkC ⟨X.take i ++ [cut t 100], 0, 0, false⟩), .var (lkC lk0), .vec 1 i (flat sC (X.take i)), .vec 1 0 []] (pushOk ⟨X.take i, 0, 0, false⟩ (lkOk (by simp; omega) (ok_take hXs) (by decide) (by decide) (by decide)) (cut t 100) (by have := cut_size t 100; omega) (by simp; omega)) rfl rfl rfl rfl ?_
    repeat (first | refine W.ite_t rfl ?_ | refine W.ite_f rfl ?_)
    refine W.alt_l ?_
    refine W.need ⟨rfl, rfl, rfl, by omega, by omega, by intro c hc; obtain rfl := List.mem_singleton.1 hc; rfl⟩ ?_
    refine W.ret ⟨_, _, _, ?_, Trim.of [0, 1, 5, 6, 7, 8, 9] [0, 1, 2, 3] (by decide) (by simp) (tr4 rfl), i + 1, ?_, ?_, by omega, rfl⟩
    · omega
    · rw [← wrapS (by omega)]; rfl
    · rw [take_next hx, flat_append]; rfl
  all_goals
    have hil : i = X.length := by first | (have := of_decide_eq_false h1; omega) | (have := of_decide_eq_false h2; omega)
    repeat (first | refine W.ite_t h1 ?_ | refine W.ite_t h2 ?_ | refine W.ite_f h1 ?_ | refine W.ite_f h2 ?_ | refine W.ite_t rfl ?_ | refine W.ite_f rfl ?_)
    subst hil
    rw [List.take_length]
    refine W.ret ?_
    have hX64 : X.length ≤ 64 := by omega
    clear hi hXg hXl
    refine W.loop (fun k fr σ => ∃ i : Nat, fr = [(1, slS B), (5, .ptr 0 0), (6, .ptr 1 0), (7, .vec 2 X.length), (8, .vec 3 i), (11, .d (nI i))] ∧ σ = [.var (lkC ⟨X, 0, 0, false⟩), .var (lkC ⟨Y.take i, 0, 0, false⟩), vS X, .vec 1 i (flat sC (Y.take i))] ∧ i ≤ Y.length ∧ k = Y.length - i) Y.length
      (Start.of [1, 5, 6, 7, 8, 11] [] (by simp)) ⟨0, rfl, rfl, by omega, rfl⟩ ?_
    rintro k fr σ ⟨i, rfl, rfl, hi, rfl⟩
    rcases two_or (decide ((i : Int) < (B.length : Int))) (decide ((i : Int) < 64)) with ⟨h1, h2⟩ | h1 | ⟨h1, h2⟩
    case inl =>
      have p1 := of_decide_eq_true h1
      have p2 := of_decide_eq_true h2
      have hil : i < Y.length := by omega
      obtain ⟨t, ht⟩ : ∃ t, B[i]? = some t := ⟨_, List.getElem?_eq_getElem (by omega)⟩
      have hx := hYg i t (by omega) ht
      repeat (first | refine W.ite_t h1 ?_ | refine W.ite_t h2 ?_ | refine W.ite_t rfl ?_ | refine W.ite_f rfl ?_)
      refine W.need (ix_ok (l := B) sC_len (by decide) (by omega)) ?_
      refine W.ld (sE ht) ?_
      refine W.pure (ok8 t 100) rfl rfl ?_
      refine W.lk 1 [.var (lkC ⟨X, 0, 0, false⟩), .var (lkC ⟨Y.take i ++ [cut t 100], 0, 0, false⟩), vS X, .vec 1 i (flat sC (Y.take i))] (pushOk ⟨Y.take i, 0, 0, false⟩ (lkOk (by simp; omega) (ok_take hYs) (by decide) (by decide) (by decide)) (cut t 100) (by have := cut_size t 100; omega) (by simp; omega)) rfl rfl rfl rfl ?_
      repeat (first | refine W.ite_t rfl ?_ | refine W.ite_f rfl ?_)
      refine W.alt_l ?_
      refine W.need ⟨rfl, rfl, rfl, by omega, by omega, by intro c hc; obtain rfl := List.mem_singleton.1 hc; rfl⟩ ?_
      refine W.ret ⟨_, _, _, ?_, Trim.of [1, 5, 6, 7, 8, 11] [0, 1, 2, 3] (by decide) (by simp) (tr4 rfl), i + 1, ?_, ?_, by omega, rfl⟩
      · omega
      · rw [← wrapS (by omega)]; rfl
      · rw [take_next hx, flat_append]; rfl
    all_goals
      have hil : i = Y.length := by first | (have := of_decide_eq_false h1; omega) | (have := of_decide_eq_false h2; omega)
      repeat (first | refine W.ite_t h1 ?_ | refine W.ite_t h2 ?_ | refine W.ite_f h1 ?_ | refine W.ite_f h2 ?_ | refine W.ite_t rfl ?_ | refine W.ite_f rfl ?_)
      subst hil
      rw [List.take_length]
      refine W.ret ?_
      have hY64 : Y.length ≤ 64 := by omega
      clear hi hYg hYl
      obtain ⟨M, hM⟩ : ∃ M : Nat, (if (Y.length : Int) > (X.length : Int) then (Y.length : Int) else (X.length : Int)) = (M : Int) := by
        split
        · exact ⟨Y.length, rfl⟩
        · exact ⟨X.length, rfl⟩
      have hMb : X.length ≤ M ∧ Y.length ≤ M ∧ M ≤ 64 := by split at hM <;> omega
      have w1 : IntKind.i64.wrap ((M : Int).tdiv 8) = ((M / 8 : Nat) : Int) := by rw [Int.tdiv_eq_ediv_of_nonneg (by omega), wrap64 (by omega) (by omega)]; omega
      have w2 : IntKind.i64.wrap (IntKind.i64.wrap ((if (Y.length : Int) > (X.length : Int) then (Y.length : Int) else (X.length : Int)).tdiv 8) + 2) = ((M / 8 + 2 : Nat) : Int) := by rw [hM, w1, wrap64 (by omega) (by omega)]; omega
      have hXs' : ∀ s ∈ X, s.size ≤ 1970 := fun s hs => by have := hXs s hs; omega
      have hYs' : ∀ s ∈ Y, s.size ≤ 1970 := fun s hs => by have := hYs s hs; omega
      refine W.loop (fun k fr σ => ∃ (r u v w : Nat) (po : Bool), fr = [(5, .ptr 0 0), (6, .ptr 1 0), (7, .vec 2 X.length), (8, .vec 3 Y.length), (13, .vec 4 (X.take u).length), (14, .vec 5 (Y.take v).length), (15, .d (nI r))] ∧ σ = [.var (lkC ⟨X.drop u, u, v, po⟩), .var (lkC ⟨Y.drop w, w, u, false⟩), vS X, vS Y, vS (X.take u), vS (Y.take v)] ∧ u = min (8 * r) X.length ∧ v = min (8 * r) Y.length ∧ w ≤ v ∧ (w < v → X.drop u ≠ [] ∨ po = true) ∧ r ≤ M / 8 + 2 ∧ k = M / 8 + 2 - r) (M / 8 + 2)
        (Start.of [5, 6, 7, 8, 13, 14, 15] [] (by simp)) ⟨0, 0, 0, 0, false, rfl, rfl, by omega, by omega, by omega, by omega, by omega, rfl⟩ ?_
      rintro k fr σ ⟨r, u, v, w, po, rfl, rfl, hu, hv, hw, hpo, hr, rfl⟩
      have hP : (⟨X.drop u, u, v, po⟩ : Lk).ok := lkOk (by simp; omega) (ok_drop hXs) (by decide) (by omega) (by omega)
      obtain ⟨K, Rs, n, s, t, b, Dl, T1, e1, e2⟩ := trans (o := po) hX64 hXs' hY64 hYs' (show u ≤ X.length by omega) (show v ≤ Y.length by omega) hw hpo
      have hK8 := T1.len
      refine W.need (by decide) ?_
      refine W.ite (fun c1 => ?_) (fun c1 => ?_)
      · have hrM : r < M / 8 + 2 := by
          have := of_decide_eq_true c1
          rw [w2] at this
          omega
        generalize hd : min 8 (X.length - u) = d at *
        refine W.lk 0 [.var (lkC ⟨X.drop u, u, v, false⟩), .var (lkC ⟨Y.drop w, w, u, false⟩), vS X, vS Y, vS (X.take u), vS (Y.take v)] (packetsOk ⟨X.drop u, u, v, po⟩ hP T1.pkt) rfl rfl rfl rfl ?_
        refine W.loop (fun k fr σ => ∃ (j : Nat), fr = [(5, .ptr 0 0), (6, .ptr 1 0), (7, .vec 2 X.length), (8, .vec 3 Y.length), (13, .vec 4 (X.take u ++ Dl j).length), (14, .vec 5 (Y.take v).length), (15, .d (nI r)), (87, slS K), (88, .d (nI K.length)), (89, .d (nI j))] ∧ σ = [.var (lkC ⟨X.drop u, u, v, false⟩), .var (lkC (Rs j)), vS X, vS Y, vS (X.take u ++ Dl j), vS (Y.take v)] ∧ j ≤ K.length ∧ k = K.length - j) K.length
          (Start.of [5, 6, 7, 8, 13, 14, 15, 87, 88, 89] [] (by simp)) ⟨0, by rw [T1.d0, List.append_nil]; rfl, by rw [T1.d0, List.append_nil, T1.r0]; rfl, by omega, rfl⟩ ?_
        rintro k fr σ ⟨j, rfl, rfl, hj, rfl⟩
        refine W.ite (fun c2 => ?_) (fun c2 => ?_)
        · have hjl : j < K.length := by have := of_decide_eq_true c2; omega
          refine W.need (ix_ok sC_len (by decide) hjl) ?_
          refine W.ld (sE (T1.get j hjl)) ?_
          refine W.lk 1 [.var (lkC ⟨X.drop u, u, v, false⟩), .var (lkC (Rs (j + 1))), vS X, vS Y, vS (X.take u ++ Dl j), vS (Y.take v)] (T1.take (by show v ≤ _; omega) hjl) rfl rfl rfl rfl ?_
          have hdn := T1.dn j hjl
          have hll := T1.dl j
          have hlen : (X.take u ++ Dl j).length ≤ 100 := by simp; omega
          cases hb : b j with
          | false =>
            rw [hb] at hdn
            have hdn : Dl (j + 1) = Dl j := by simpa using hdn
            repeat (first | refine W.ite_f hb ?_ | refine W.ite_t rfl ?_ | refine W.ite_f rfl ?_)
            refine W.ret ⟨_, _, _, ?_, Trim.of [5, 6, 7, 8, 13, 14, 15, 87, 88, 89] [0, 1, 2, 3, 4, 5] (by decide) (by simp) (tr6 rfl), j + 1, ?_, ?_, by omega, rfl⟩
            · omega
            · rw [← wrapS (by omega), hdn]; rfl
            · rw [hdn]; rfl
          | true =>
            rw [hb] at hdn
            have hdn : Dl (j + 1) = Dl j ++ [t j] := by simpa using hdn
            repeat (first | refine W.ite_t hb ?_ | refine W.ite_t rfl ?_ | refine W.ite_f rfl ?_)
            refine W.alt_l ?_
            refine W.need ⟨rfl, rfl, rfl, by omega, by omega, by intro c hc; obtain rfl := List.mem_singleton.1 hc; rfl⟩ ?_
            refine W.ret ⟨_, _, _, ?_, Trim.of [5, 6, 7, 8, 13, 14, 15, 87, 88, 89] [0, 1, 2, 3, 4, 5] (by decide) (by simp) (tr6 rfl), j + 1, ?_, ?_, by omega, rfl⟩
            · omega
            · rw [← wrapS (by omega), hdn, ← List.append_assoc, ← v_snoc]; rfl
            · rw [hdn, ← List.append_assoc, ← vS_snoc]; rfl
        · have hjl : j = K.length := by have := of_decide_eq_false c2; omega
          subst hjl
          have hXu : X.take u ++ (X.drop u).take 8 = X.take (u + d) := by
            rw [← List.take_add]
            by_cases h8 : u + 8 ≤ X.length
            · rw [show d = 8 from by omega]
            · rw [List.take_of_length_le (by omega), List.take_of_length_le (by omega)]
          rw [e1, e2, hXu]
          clear T1 e1 e2
          have hQ : (⟨Y.drop v, v, u + d, decide (0 < d)⟩ : Lk).ok := lkOk (by simp; omega) (ok_drop hYs) (by decide) (by omega) (by omega)
          obtain ⟨K2, Rs2, n2, s2, t2, b2, Dl2, T2, f1, f2⟩ := trans (U := Y) (V := X) (a := v) (c := u + d) (w := u) (o := decide (0 < d)) hY64 hYs' hX64 hXs' (by omega) (by omega) (by omega) (fun h => .inr (decide_eq_true (by omega)))
          have hK28 := T2.len
          generalize he : min 8 (Y.length - v) = e at *
          refine W.ret ?_
          refine W.lk 1 [.var (lkC ⟨X.drop u, u, v, false⟩), .var (lkC ⟨Y.drop v, v, u + d, false⟩), vS X, vS Y, vS (X.take (u + d)), vS (Y.take v)] (packetsOk ⟨Y.drop v, v, u + d, decide (0 < d)⟩ hQ T2.pkt) rfl rfl rfl rfl ?_
          refine W.loop (fun k fr σ => ∃ (j : Nat), fr = [(5, .ptr 0 0), (6, .ptr 1 0), (7, .vec 2 X.length), (8, .vec 3 Y.length), (13, .vec 4 (X.take (u + d)).length), (14, .vec 5 (Y.take v ++ Dl2 j).length), (15, .d (nI r)), (107, slS K2), (108, .d (nI K2.length)), (109, .d (nI j))] ∧ σ = [.var (lkC (Rs2 j)), .var (lkC ⟨Y.drop v, v, u + d, false⟩), vS X, vS Y, vS (X.take (u + d)), vS (Y.take v ++ Dl2 j)] ∧ j ≤ K2.length ∧ k = K2.length - j) K2.length
            (Start.of [5, 6, 7, 8, 13, 14, 15, 107, 108, 109] [] (by simp)) ⟨0, by rw [T2.d0, List.append_nil]; rfl, by rw [T2.d0, List.append_nil, T2.r0]; rfl, by omega, rfl⟩ ?_
          rintro k fr σ ⟨j, rfl, rfl, hj, rfl⟩
          refine W.ite (fun c2 => ?_) (fun c2 => ?_)
          · have hjl : j < K2.length := by have := of_decide_eq_true c2; omega
            refine W.need (ix_ok sC_len (by decide) hjl) ?_
            refine W.ld (sE (T2.get j hjl)) ?_
            refine W.lk 0 [.var (lkC (Rs2 (j + 1))), .var (lkC ⟨Y.drop v, v, u + d, false⟩), vS X, vS Y, vS (X.take (u + d)), vS (Y.take v ++ Dl2 j)] (T2.take (by show u + d ≤ _; omega) hjl) rfl rfl rfl rfl ?_
            have hdn := T2.dn j hjl
            have hll := T2.dl j
            have hlen : (Y.take v ++ Dl2 j).length ≤ 100 := by simp; omega
            cases hb : b2 j with
            | false =>
              rw [hb] at hdn
              have hdn : Dl2 (j + 1) = Dl2 j := by simpa using hdn
              repeat (first | refine W.ite_f hb ?_ | refine W.ite_t rfl ?_ | refine W.ite_f rfl ?_)
              refine W.ret ⟨_, _, _, ?_, Trim.of [5, 6, 7, 8, 13, 14, 15, 107, 108, 109] [0, 1, 2, 3, 4, 5] (by decide) (by simp) (tr6 rfl), j + 1, ?_, ?_, by omega, rfl⟩
              · omega
              · rw [← wrapS (by omega), hdn]; rfl
              · rw [hdn]; rfl
            | true =>
              rw [hb] at hdn
              have hdn : Dl2 (j + 1) = Dl2 j ++ [t2 j] := by simpa using hdn
              repeat (first | refine W.ite_t hb ?_ | refine W.ite_t rfl ?_ | refine W.ite_f rfl ?_)
              refine W.alt_l ?_
              refine W.need ⟨rfl, rfl, rfl, by omega, by omega, by intro c hc; obtain rfl := List.mem_singleton.1 hc; rfl⟩ ?_
              refine W.ret ⟨_, _, _, ?_, Trim.of [5, 6, 7, 8, 13, 14, 15, 107, 108, 109] [0, 1, 2, 3, 4, 5] (by decide) (by simp) (tr6 rfl), j + 1, ?_, ?_, by omega, rfl⟩
              · omega
              · rw [← wrapS (by omega), hdn, ← List.append_assoc, ← v_snoc]; rfl
              · rw [hdn, ← List.append_assoc, ← vS_snoc]; rfl
          · have hjl : j = K2.length := by have := of_decide_eq_false c2; omega
            subst hjl
            have hYv : Y.take v ++ (Y.drop v).take 8 = Y.take (v + e) := by
              rw [← List.take_add]
              by_cases h8 : v + 8 ≤ Y.length
              · rw [show e = 8 from by omega]
              · rw [List.take_of_length_le (by omega), List.take_of_length_le (by omega)]
            rw [f1, f2, hYv]
            refine W.ret ?_
            refine W.ret ⟨_, _, _, ?_, Trim.of [5, 6, 7, 8, 13, 14, 15] [0, 1, 2, 3, 4, 5] (by decide) (by simp) (tr6 rfl), r + 1, u + d, v + e, v, decide (0 < e), ?_, ?_, by omega, by omega, by omega, fun h => .inr (decide_eq_true (by omega)), by omega, rfl⟩
            · omega
            · rw [← wrapS (by omega)]; rfl
            · rfl
      · have hrM : r = M / 8 + 2 := by
          have := of_decide_eq_false c1
          rw [w2] at this
          omega
        have hu' : u = X.length := by omega
        have hv' : v = Y.length := by omega
        subst hu' hv'
        refine W.ret ?_
        refine W.lk 0 [.var (lkC ⟨X.drop X.length, X.length, Y.length, false⟩), .var (lkC ⟨Y.drop w, w, X.length, false⟩), vS X, vS Y, vS (X.take X.length), vS (Y.take Y.length)] (packetsOk ⟨X.drop X.length, X.length, Y.length, po⟩ hP T1.pkt) rfl rfl rfl rfl ?_
        refine W.loop (fun k fr σ => ∃ (j : Nat), fr = [(5, .ptr 0 0), (6, .ptr 1 0), (7, .vec 2 X.length), (8, .vec 3 Y.length), (13, .vec 4 (X.take X.length).length), (14, .vec 5 (Y.take Y.length).length), (127, slS K), (128, .d (nI K.length)), (129, .d (nI j))] ∧ σ = [.var (lkC ⟨X.drop X.length, X.length, Y.length, false⟩), .var (lkC (Rs j)), vS X, vS Y, vS (X.take X.length), vS (Y.take Y.length)] ∧ j ≤ K.length ∧ k = K.length - j) K.length
          (Start.of [5, 6, 7, 8, 13, 14, 127, 128, 129] [] (by simp)) ⟨0, rfl, by rw [T1.r0]; rfl, by omega, rfl⟩ ?_
        rintro k fr σ ⟨j, rfl, rfl, hj, rfl⟩
        refine W.ite (fun c2 => ?_) (fun c2 => ?_)
        · have hjl : j < K.length := by have := of_decide_eq_true c2; omega
          refine W.need (ix_ok sC_len (by decide) hjl) ?_
          refine W.ld (sE (T1.get j hjl)) ?_
          refine W.lk 1 [.var (lkC ⟨X.drop X.length, X.length, Y.length, false⟩), .var (lkC (Rs (j + 1))), vS X, vS Y, vS (X.take X.length), vS (Y.take Y.length)] (T1.take (by show Y.length ≤ _; omega) hjl) rfl rfl rfl rfl ?_
          refine W.ret ⟨_, _, _, ?_, Trim.of [5, 6, 7, 8, 13, 14, 127, 128, 129] [0, 1, 2, 3, 4, 5] (by decide) (by simp) (tr6 rfl), j + 1, ?_, rfl, by omega, rfl⟩
          · omega
          · rw [← wrapS (by omega)]; rfl
        · have hjl : j = K.length := by have := of_decide_eq_false c2; omega
          subst hjl
          rw [e1, List.take_length, List.take_length]
          have n1 : (((X.drop X.length).length : Int) == 0) = true := by simp
          have n2 : (((Y.drop Y.length).length : Int) == 0) = true := by simp
          refine W.ret ?_
          refine W.pure ok12 rfl rfl ?_
          repeat (first | refine W.ite_t rfl ?_ | refine W.ite_f rfl ?_)
          refine W.callF [] [.var (lkC ⟨X.drop X.length, X.length, Y.length, false⟩), .var (lkC ⟨Y.drop Y.length, Y.length, X.length + min 8 (X.length - X.length), decide (0 < min 8 (X.length - X.length))⟩), vS X, vS Y, vS X, vS Y] (x2 := bI true) (ok13 X (by omega)) (by decide) rfl rfl (by show [AV.d (.sl X.length ((flat sC X).take (X.length * 1))), AV.d (.sl X.length ((flat sC X).take (X.length * 1)))] = _; rw [sl_all]) rfl rfl rfl ?_
          repeat (first | refine W.ite_t rfl ?_ | refine W.ite_f rfl ?_)
          refine W.callF [] [.var (lkC ⟨X.drop X.length, X.length, Y.length, false⟩), .var (lkC ⟨Y.drop Y.length, Y.length, X.length + min 8 (X.length - X.length), decide (0 < min 8 (X.length - X.length))⟩), vS X, vS Y, vS X, vS Y] (x2 := bI true) (ok13 Y (by omega)) (by decide) rfl rfl (by show [AV.d (.sl Y.length ((flat sC Y).take (Y.length * 1))), AV.d (.sl Y.length ((flat sC Y).take (Y.length * 1)))] = _; rw [sl_all]) rfl rfl rfl ?_
          repeat (first | refine W.ite_t n1 ?_ | refine W.ite_t n2 ?_ | refine W.ite_t rfl ?_ | refine W.ite_f rfl ?_)
          exact W.ret (RetQ.pure rfl (ret_bI n2))
end Go.Proofs.Ytpemfjnjkjckoaa.Lk
