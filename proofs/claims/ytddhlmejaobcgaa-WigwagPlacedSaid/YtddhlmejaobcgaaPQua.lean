import Derived.Test.YtddhlmejaobcgaaCW
import Derived.Test.YtddhlmejaobcgaaAm25
set_option maxRecDepth 100000
set_option linter.unusedVariables false
set_option linter.unusedSimpArgs false
/- Sorting in place: insertion, heap, partition. -/
namespace Go.Proofs.Ytddhlmejaobcgaa.Pu
open Go Go.Am Co
def od82 : Ords := []
theorem code82 : codeB Try.f82.ntmps od82 (match Try.f82.body with | some c => c | none => .skip) = true := by kernel_rfl
def od63 : Ords := []
theorem code63 : codeB Try.f63.ntmps od63 (match Try.f63.body with | some c => c | none => .skip) = true := by kernel_rfl
def od72 : Ords := [(4, [0, 1, 2, 3, 4, 5, 6, 7, 8, 9, 10, 11, 12, 1013, 14]), (6, [0, 1, 2, 3, 4, 5, 6, 7, 8, 9, 10, 11, 12, 13, 14, 1015, 16, 1017])]
theorem code72 : codeB Try.f72.ntmps od72 (match Try.f72.body with | some c => c | none => .skip) = true := by kernel_rfl
abbrev uD (z : Int) : D := .lit (.int .u64 z)
def eC (z : Int) : List D := [uD z]
theorem eC_len (z : Int) : (eC z).length = 1 := rfl
abbrev rB (zs : List Int) : Blk := .row 1 1 (flat eC zs)
abbrev rV (n : Nat) : AV := .row 0 1 0 n
def g (zs : List Int) (i : Nat) : Int := zs.getD i 0
theorem fl_len (zs : List Int) : (flat eC zs).length = zs.length := by rw [flat_length eC_len]; simp
theorem g_some {zs : List Int} {i : Nat} (h : i < zs.length) : zs[i]? = some (g zs i) := by
  unfold g; rw [List.getD_eq_getElem?_getD, List.getElem?_eq_getElem h]; rfl
theorem eE {zs : List Int} {i : Nat} (h : i < zs.length) : Elem (flat eC zs) [.int .u64] (0 + i * 1) 1 [uD (g zs i)] := by
  rw [Nat.zero_add]
  exact Elem.all eC_len (g_some h) _ rfl ⟨rfl, True.intro⟩ rfl
theorem put_flat : ∀ {zs : List Int} {i : Nat} (h : i < zs.length) (x : Int), (flat eC zs).take (0 + i * 1) ++ [uD x] ++ (flat eC zs).drop (0 + i * 1 + 1) = flat eC (zs.set i x)
  | [], i, h, x => by simp at h
  | z :: r, 0, h, x => by simp [flat, eC]
  | z :: r, i + 1, h, x => by
    have := put_flat (zs := r) (i := i) (by simpa using h) x
    simp only [Nat.zero_add, Nat.mul_one] at this ⊢
    simp only [flat, eC, List.set_cons_succ, List.singleton_append, List.take_succ_cons, List.drop_succ_cons, List.cons_append]
    rw [← this]
    simp
def sw (zs : List Int) (i j : Nat) : List Int := (zs.set i (g zs j)).set j (g zs i)
theorem sw_len (zs : List Int) (i j : Nat) : (sw zs i j).length = zs.length := by simp [sw]
theorem g_set {zs : List Int} {i : Nat} (h : i < zs.length) (x : Int) (k : Nat) : g (zs.set i x) k = if k = i then x else g zs k := by
  unfold g
  simp only [List.getD_eq_getElem?_getD, List.getElem?_set]
  by_cases hk : i = k
  · subst hk; simp [h]
  · rw [if_neg hk, if_neg (fun e => hk e.symm)]
theorem g_sw {zs : List Int} {i j : Nat} (hi : i < zs.length) (hj : j < zs.length) (k : Nat) : g (sw zs i j) k = if k = j then g zs i else if k = i then g zs j else g zs k := by
  unfold sw
  rw [g_set (by simpa using hj), g_set hi]
/-- What two stores leave. -/
theorem sw_flat {zs : List Int} {i j : Nat} (hi : i < zs.length) (hj : j < zs.length) :
    ((flat eC zs).take (0 + i * 1) ++ [uD (g zs j)] ++ (flat eC zs).drop (0 + i * 1 + 1)).take (0 + j * 1) ++ [uD (g zs i)] ++ ((flat eC zs).take (0 + i * 1) ++ [uD (g zs j)] ++ (flat eC zs).drop (0 + i * 1 + 1)).drop (0 + j * 1 + 1) = flat eC (sw zs i j) := by
  rw [put_flat hi, put_flat (by simpa using hj)]
  rfl
theorem ixI {X : Int} {i n : Nat} (h : X = (i : Int)) (hi : i < n) : (0 : Int) ≤ X ∧ X < (n : Int) := by omega
theorem eEI {zs : List Int} {X : Int} {i : Nat} (h : X = (i : Int)) (hi : i < zs.length) : Elem (flat eC zs) [.int .u64] (0 + X.toNat * 1) 1 [uD (g zs i)] := by subst h; exact eE hi
theorem st0 {zs : List Int} {X : Int} {i : Nat} (h : X = (i : Int)) (hi : i < zs.length) : 0 + X.toNat * 1 + 1 ≤ (flat eC zs).length := by rw [fl_len]; omega
theorem st1 {zs : List Int} {X Y : Int} {i j : Nat} (h : X = (i : Int)) (k : Y = (j : Int)) (hi : i < zs.length) (hj : j < zs.length) :
    0 + Y.toNat * 1 + 1 ≤ ((flat eC zs).take (0 + X.toNat * 1) ++ [uD (g zs j)] ++ (flat eC zs).drop (0 + X.toNat * 1 + 1)).length := by
  subst h k
  show 0 + j * 1 + 1 ≤ ((flat eC zs).take (0 + i * 1) ++ [uD (g zs j)] ++ (flat eC zs).drop (0 + i * 1 + 1)).length
  rw [put_flat hi, fl_len, List.length_set]; omega
theorem swI {zs : List Int} {X Y : Int} {i j : Nat} (h : X = (i : Int)) (k : Y = (j : Int)) (hi : i < zs.length) (hj : j < zs.length) :
    [Blk.row 1 1 (((flat eC zs).take (0 + X.toNat * 1) ++ [uD (g zs j)] ++ (flat eC zs).drop (0 + X.toNat * 1 + 1)).take (0 + Y.toNat * 1) ++ [uD (g zs i)] ++ ((flat eC zs).take (0 + X.toNat * 1) ++ [uD (g zs j)] ++ (flat eC zs).drop (0 + X.toNat * 1 + 1)).drop (0 + Y.toNat * 1 + 1))] = [rB (sw zs i j)] := by
  subst h k
  exact congrArg (fun c => [Blk.row 1 1 c]) (sw_flat hi hj)
theorem set_perm : ∀ {zs : List Int} {i : Nat} {x : Int} (h : zs[i]? = some x) (y : Int), (y :: zs).Perm (x :: zs.set i y)
  | z :: r, 0, x, h, y => by
    obtain rfl : z = x := by simpa using h
    exact List.Perm.swap _ _ _
  | z :: r, i + 1, x, h, y => by
    have := set_perm (zs := r) (i := i) (by simpa using h) y
    simp only [List.set_cons_succ]
    exact ((List.Perm.swap z y r).trans (this.cons z)).trans (List.Perm.swap x z _)
theorem sw_perm {zs : List Int} {i j : Nat} (hi : i < zs.length) (hj : j < zs.length) : (sw zs i j).Perm zs := by
  have h1 := set_perm (g_some hi) (g zs j)
  have h2 : (zs.set i (g zs j))[j]? = some (g zs j) := by
    rw [List.getElem?_set]
    by_cases h : i = j
    · subst h; simp [hi]
    · rw [if_neg h]; exact g_some hj
  have h3 := set_perm h2 (g zs i)
  exact ((List.perm_cons (g zs j)).1 (h1.trans h3)).symm
/-- What is moved within a to b. -/
structure Sg (a b : Nat) (zs zs' : List Int) : Prop where
  len : zs'.length = zs.length
  out : ∀ i, i < a ∨ b ≤ i → g zs' i = g zs i
  src : ∀ i, a ≤ i → i < b → ∃ j, a ≤ j ∧ j < b ∧ g zs' i = g zs j
  perm : zs'.Perm zs
theorem Sg.refl (a b : Nat) (zs : List Int) : Sg a b zs zs := ⟨rfl, fun _ _ => rfl, fun i h1 h2 => ⟨i, h1, h2, rfl⟩, .refl _⟩
theorem Sg.trans {a b : Nat} {x y z : List Int} (h : Sg a b x y) (k : Sg a b y z) : Sg a b x z :=
  ⟨k.len.trans h.len, fun i hi => (k.out i hi).trans (h.out i hi), fun i h1 h2 => by
    obtain ⟨j, j1, j2, e⟩ := k.src i h1 h2
    obtain ⟨m, m1, m2, e'⟩ := h.src j j1 j2
    exact ⟨m, m1, m2, e.trans e'⟩, k.perm.trans h.perm⟩
theorem Sg.wide {a b c d : Nat} {x y : List Int} (h : Sg a b x y) (h1 : c ≤ a) (h2 : b ≤ d) : Sg c d x y :=
  ⟨h.len, fun i hi => h.out i (by omega), fun i k1 k2 => by
    by_cases hi : a ≤ i ∧ i < b
    · obtain ⟨j, j1, j2, e⟩ := h.src i hi.1 hi.2
      exact ⟨j, by omega, by omega, e⟩
    · exact ⟨i, k1, k2, h.out i (by omega)⟩, h.perm⟩
theorem Sg.sw {a b i j : Nat} {zs : List Int} (hi : a ≤ i ∧ i < b) (hj : a ≤ j ∧ j < b) (hb : b ≤ zs.length) : Sg a b zs (sw zs i j) :=
  ⟨sw_len zs i j, fun k hk => by rw [g_sw (by omega) (by omega), if_neg (by omega), if_neg (by omega)], fun k h1 h2 => by
    rw [g_sw (by omega) (by omega)]
    split
    · exact ⟨i, hi.1, hi.2, rfl⟩
    · split
      · exact ⟨j, hj.1, hj.2, rfl⟩
      · exact ⟨k, h1, h2, rfl⟩, sw_perm (by omega) (by omega)⟩
/-- Rising from a to b. -/
def So (a b : Nat) (zs : List Int) : Prop := ∀ p q, a ≤ p → p ≤ q → q < b → g zs p ≤ g zs q
theorem wI {x : Int} (h : -9223372036854775808 ≤ x ∧ x < 9223372036854775808) : IntKind.i64.wrap x = x := wrap64 h.1 h.2
theorem ok82 (x : Int) : Go.Am.Pure Try.prog 82 [.d (uD x)] (bI false) := by
  refine CallOk.of tysOk mixed od82 Try.func82 rfl rfl code82 ?_
  refine W.ret (RetQ.pure rfl (ret_bI ?_))
  simp
theorem ok63 (x y : Int) : Go.Am.Pure Try.prog 63 [.d (uD x), .d (uD y)] (bI (decide (x < y))) := by
  refine CallOk.of tysOk mixed od63 Try.func63 rfl rfl code63 ?_
  refine W.pure (ok82 x) rfl rfl ?_
  repeat (first | refine W.ite_t rfl ?_ | refine W.ite_f rfl ?_)
  exact W.ret (RetQ.pure rfl rfl)
theorem keepR (q : Nat) (h : q < 1) : [0][q]? = some q := by
  obtain rfl : q = 0 := by omega
  rfl
/-- What a function that moves within a to b leaves. -/
def Mv (a b : Nat) (zs : List Int) (X : AV → List Int → Prop) (v : AV) (s : Store) : Prop := ∃ zs', s = [rB zs'] ∧ Sg a b zs zs' ∧ X v zs'
set_option maxHeartbeats 2000000 in
/-- Insertion. -/
theorem ok72 {n : Nat} (zs : List Int) (a b : Nat) (hl0 : zs.length = n) (hab : a ≤ b) (hb : b ≤ n) (hn : n ≤ 1000000) :
    CallOk Try.prog 72 [rV n, .d (nI a), .d (nI b)] [rB zs] (Mv a b zs fun v zs' => v = .tuple [] ∧ So a b zs') := by
  refine CallOk.of tysOk mixed od72 Try.func72 rfl rfl code72 ?_
  have so1 : So a (a + 1) zs := fun p q h1 h2 h3 => by
    have : p = q := by omega
    rw [this]; exact Int.le_refl _
  refine W.loop (fun k fr σ => ∃ (i : Nat) (ys : List Int), fr = [(0, rV n), (1, .d (nI a)), (2, .d (nI b)), (6, .d (nI i))] ∧ σ = [rB ys] ∧ Sg a b zs ys ∧ a < i ∧ (i ≤ b ∨ i = a + 1) ∧ So a i ys ∧ k = b - i) (b - (a + 1))
    (Start.of [0, 1, 2, 6] [] (by simp)) ⟨a + 1, zs, by rw [show ((a + 1 : Nat) : Int) = IntKind.i64.wrap ((a : Int) + 1) from by rw [wI (by omega)]; rfl]; rfl, rfl, Sg.refl a b zs, by omega, .inr rfl, so1, rfl⟩ ?_
  rintro k fr σ ⟨i, ys, rfl, rfl, hS, hi, hib, hso, rfl⟩
  by_cases hlt : i < b
  · refine W.ite_t (decide_eq_true (by omega)) ?_
    refine W.loop (fun k fr σ => ∃ (j : Nat) (xs : List Int), fr = [(0, rV n), (1, .d (nI a)), (2, .d (nI b)), (6, .d (nI i)), (7, .d (nI j))] ∧ σ = [rB xs] ∧ Sg a b zs xs ∧ a ≤ j ∧ j ≤ i ∧ (∀ p q, a ≤ p → p < q → q ≤ i → q ≠ j → g xs p ≤ g xs q) ∧ k = j - a) (i - a)
      (Start.of [0, 1, 2, 6, 7] [] (by simp)) ⟨i, ys, rfl, rfl, hS, by omega, by omega, fun p q h1 h2 h3 h4 => hso p q h1 (by omega) (by omega), rfl⟩ ?_
    rintro k fr σ ⟨j, xs, rfl, rfl, hX, h1, h2, h3, rfl⟩
    have hl := hX.len
    have gi : IntKind.i64.wrap ((i : Int) + 1) = ((i + 1 : Nat) : Int) := by rw [wI (by omega)]; rfl
    have done : (∀ p, a ≤ p → p < j → g xs p ≤ g xs j) → So a (i + 1) xs := fun hj p q k1 k2 k3 => by
      by_cases hpq : p = q
      · rw [hpq]; exact Int.le_refl _
      · by_cases hqj : q = j
        · rw [hqj]; exact hj p k1 (by omega)
        · exact h3 p q k1 (by omega) (by omega) hqj
    by_cases hja : a < j
    · have ej : IntKind.i64.wrap ((j : Int) - 1) = ((j - 1 : Nat) : Int) := by rw [wI (by omega)]; omega
      have c1 : decide ((j : Int) > (a : Int)) = true := decide_eq_true (by omega)
      repeat (first | refine W.ite_t c1 ?_ | refine W.ite_t rfl ?_ | refine W.ite_f rfl ?_)
      refine W.need (ixI rfl (show j < n by omega)) ?_
      repeat (first | refine W.ite_t c1 ?_ | refine W.ite_t rfl ?_ | refine W.ite_f rfl ?_)
      refine W.ld (eEI rfl (show j < xs.length by omega)) ?_
      repeat (first | refine W.ite_t c1 ?_ | refine W.ite_t rfl ?_ | refine W.ite_f rfl ?_)
      refine W.need (ixI ej (by omega)) ?_
      repeat (first | refine W.ite_t c1 ?_ | refine W.ite_t rfl ?_ | refine W.ite_f rfl ?_)
      refine W.ld (eEI ej (by omega)) ?_
      repeat (first | refine W.ite_t c1 ?_ | refine W.ite_t rfl ?_ | refine W.ite_f rfl ?_)
      refine W.pure (ok63 _ _) rfl rfl ?_
      repeat (first | refine W.ite_t c1 ?_ | refine W.ite_t rfl ?_ | refine W.ite_f rfl ?_)
      refine W.ite (fun c => ?_) (fun c => ?_)
      · have hc : g xs j < g xs (j - 1) := of_decide_eq_true c
        refine W.need (ixI ej (show j - 1 < n by omega)) ?_
        refine W.ld (eEI ej (show j - 1 < xs.length by omega)) ?_
        refine W.need (ixI rfl (show j < n by omega)) ?_
        refine W.ld (eEI rfl (show j < xs.length by omega)) ?_
        refine W.need (ixI rfl (show j < n by omega)) ?_
        refine W.need (st0 rfl (show j < xs.length by omega)) ?_
        refine W.need (ixI ej (show j - 1 < n by omega)) ?_
        refine W.need (st1 rfl ej (show j < xs.length by omega) (show j - 1 < xs.length by omega)) ?_
        refine W.ret ⟨_, _, _, ?_, Trim.of [0, 1, 2, 6, 7] [0] (by decide) (by simp) keepR, j - 1, sw xs j (j - 1), ?_, ?_, hX.trans (Sg.sw ⟨by omega, by omega⟩ ⟨by omega, by omega⟩ (by omega)), by omega, by omega, ?_, rfl⟩
        · omega
        · rw [← ej]; rfl
        · exact swI rfl ej (by omega) (by omega)
        · intro p q k1 k2 k3 k4
          rw [g_sw (by omega) (by omega), g_sw (by omega) (by omega)]
          by_cases q1 : q = j
          · subst q1
            rw [if_neg k4, if_pos rfl]
            by_cases p1 : p = q - 1
            · rw [if_pos p1]; omega
            · rw [if_neg p1, if_neg (by omega)]
              exact h3 p (q - 1) k1 (by omega) (by omega) (by omega)
          · rw [if_neg k4, if_neg q1]
            by_cases p1 : p = j - 1
            · rw [if_pos p1]; exact h3 j q (by omega) (by omega) k3 q1
            · rw [if_neg p1]
              by_cases p2 : p = j
              · rw [if_pos p2]; exact h3 (j - 1) q (by omega) (by omega) k3 q1
              · rw [if_neg p2]; exact h3 p q k1 k2 k3 q1
      · have hc : ¬ g xs j < g xs (j - 1) := of_decide_eq_false c
        refine W.ret ?_
        refine W.ret ⟨_, _, _, ?_, Trim.of [0, 1, 2, 6] [0] (by decide) (by simp) keepR, i + 1, xs, ?_, rfl, hX, by omega, by omega, done ?_, rfl⟩
        · omega
        · rw [← gi]; rfl
        · intro p p1 p2
          by_cases e : p = j - 1
          · rw [e]; omega
          · exact Int.le_trans (h3 p (j - 1) p1 (by omega) (by omega) (by omega)) (by omega)
    · have c1 : decide ((j : Int) > (a : Int)) = false := decide_eq_false (by omega)
      repeat (first | refine W.ite_f c1 ?_ | refine W.ite_t rfl ?_ | refine W.ite_f rfl ?_)
      refine W.ret ?_
      refine W.ret ⟨_, _, _, ?_, Trim.of [0, 1, 2, 6] [0] (by decide) (by simp) keepR, i + 1, xs, ?_, rfl, hX, by omega, by omega, done ?_, rfl⟩
      · omega
      · rw [← gi]; rfl
      · intro p p1 p2; omega
  · refine W.ite_f (decide_eq_false (by omega)) ?_
    refine W.ret (W.ret (RetQ.all ⟨ys, rfl, hS, rfl, ?_⟩))
    rcases hib with h | h
    · obtain rfl : i = b := by omega
      exact hso
    · intro p q h1 h2 h3
      exact hso p q h1 h2 (by omega)
end Go.Proofs.Ytddhlmejaobcgaa.Pu
