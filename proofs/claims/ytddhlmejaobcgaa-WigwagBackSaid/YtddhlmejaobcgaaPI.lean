import Derived.Test.YtddhlmejaobcgaaCW
import Derived.Test.YtddhlmejaobcgaaAm25
set_option maxRecDepth 100000
set_option linter.unusedVariables false
set_option linter.unusedSimpArgs false
/- Sorting in place: insertion, heap, partition. -/
namespace Go.Proofs.Ytddhlmejaobcgaa.Pi
open Go Go.Am Co
def od100 : Ords := []
theorem code100 : codeB Try.f100.ntmps od100 (match Try.f100.body with | some c => c | none => .skip) = true := by kernel_rfl
def od89 : Ords := []
theorem code89 : codeB Try.f89.ntmps od89 (match Try.f89.body with | some c => c | none => .skip) = true := by kernel_rfl
def od83 : Ords := [(4, [0, 1, 2, 3, 4, 5, 6, 7, 8, 9, 10, 11, 12, 1013, 14]), (6, [0, 1, 2, 3, 4, 5, 6, 7, 8, 9, 10, 11, 12, 13, 14, 1015, 16, 1017])]
theorem code83 : codeB Try.f83.ntmps od83 (match Try.f83.body with | some c => c | none => .skip) = true := by kernel_rfl
abbrev uD (z : Int) : D := .lit (.int .i64 z)
def eC (z : Int) : List D := [uD z]
theorem eC_len (z : Int) : (eC z).length = 1 := rfl
abbrev rB (zs : List Int) : Blk := .row 1 1 (flat eC zs)
abbrev rV (n : Nat) : AV := .row 0 1 0 n
def g (zs : List Int) (i : Nat) : Int := zs.getD i 0
theorem fl_len (zs : List Int) : (flat eC zs).length = zs.length := by rw [flat_length eC_len]; simp
theorem g_some {zs : List Int} {i : Nat} (h : i < zs.length) : zs[i]? = some (g zs i) := by
  unfold g; rw [List.getD_eq_getElem?_getD, List.getElem?_eq_getElem h]; rfl
theorem eE {zs : List Int} {i : Nat} (h : i < zs.length) : Elem (flat eC zs) [.int .i64] (0 + i * 1) 1 [uD (g zs i)] := by
  rw [Nat.zero_add]
  exact Elem.all eC_len (g_some h) _ rfl ⟨rfl, True.intro⟩ rfl
theorem put_flat : ∀ {zs : List Int} {i : Nat} (h : i < zs.length) (x : Int), (flat eC zs).take (0 + i * 1) ++ [uD x] ++ (flat eC zs).drop (0 + i * 1 + 1) = flat eC (zs.set i x)
  | [], i, h, x => by simp at h
  | z :: r, 0, h, x => by simp [flat, eC]
  | z :: r, i + 1, h, x => by
    have := put_flat (zs := r) (i := i) (by simpa using h) x
    simp only [Nat.zero_add, Nat.mul_one] at this ⊢
    simp only [flat, eC, List.set_cons_succ, List.singleton_append, List.take_succ_cons, List.drop_succ_cons, List.cons_append]
    rw [← this]
    simp
def sw (zs : List Int) (i j : Nat) : List Int := (zs.set i (g zs j)).set j (g zs i)
theorem sw_len (zs : List Int) (i j : Nat) : (sw zs i j).length = zs.length := by simp [sw]
theorem g_set {zs : List Int} {i : Nat} (h : i < zs.length) (x : Int) (k : Nat) : g (zs.set i x) k = if k = i then x else g zs k := by
  unfold g
  simp only [List.getD_eq_getElem?_getD, List.getElem?_set]
  by_cases hk : i = k
  · subst hk; simp [h]
  · rw [if_neg hk, if_neg (fun e => hk e.symm)]
theorem g_sw {zs : List Int} {i j : Nat} (hi : i < zs.length) (hj : j < zs.length) (k : Nat) : g (sw zs i j) k = if k = j then g zs i else if k = i then g zs j else g zs k := by
  unfold sw
  rw [g_set (by simpa using hj), g_set hi]
/-- What two stores leave. -/
theorem sw_flat {zs : List Int} {i j : Nat} (hi : i < zs.length) (hj : j < zs.length) :
    ((flat eC zs).take (0 + i * 1) ++ [uD (g zs j)] ++ (flat eC zs).drop (0 + i * 1 + 1)).take (0 + j * 1) ++ [uD (g zs i)] ++ ((flat eC zs).take (0 + i * 1) ++ [uD (g zs j)] ++ (flat eC zs).drop (0 + i * 1 + 1)).drop (0 + j * 1 + 1) = flat eC (sw zs i j) := by
  rw [put_flat hi, put_flat (by simpa using hj)]
  rfl
theorem ixI {X : Int} {i n : Nat} (h : X = (i : Int)) (hi : i < n) : (0 : Int) ≤ X ∧ X < (n : Int) := by omega
theorem eEI {zs : List Int} {X : Int} {i : Nat} (h : X = (i : Int)) (hi : i < zs.length) : Elem (flat eC zs) [.int .i64] (0 + X.toNat * 1) 1 [uD (g zs i)] := by subst h; exact eE hi
theorem st0 {zs : List Int} {X : Int} {i : Nat} (h : X = (i : Int)) (hi : i < zs.length) : 0 + X.toNat * 1 + 1 ≤ (flat eC zs).length := by rw [fl_len]; omega
theorem st1 {zs : List Int} {X Y : Int} {i j : Nat} (h : X = (i : Int)) (k : Y = (j : Int)) (hi : i < zs.length) (hj : j < zs.length) :
    0 + Y.toNat * 1 + 1 ≤ ((flat eC zs).take (0 + X.toNat * 1) ++ [uD (g zs j)] ++ (flat eC zs).drop (0 + X.toNat * 1 + 1)).length := by
  subst h k
  show 0 + j * 1 + 1 ≤ ((flat eC zs).take (0 + i * 1) ++ [uD (g zs j)] ++ (flat eC zs).drop (0 + i * 1 + 1)).length
  rw [put_flat hi, fl_len, List.length_set]; omega
theorem swI {zs : List Int} {X Y : Int} {i j : Nat} (h : X = (i : Int)) (k : Y = (j : Int)) (hi : i < zs.length) (hj : j < zs.length) :
    [Blk.row 1 1 (((flat eC zs).take (0 + X.toNat * 1) ++ [uD (g zs j)] ++ (flat eC zs).drop (0 + X.toNat * 1 + 1)).take (0 + Y.toNat * 1) ++ [uD (g zs i)] ++ ((flat eC zs).take (0 + X.toNat * 1) ++ [uD (g zs j)] ++ (flat eC zs).drop (0 + X.toNat * 1 + 1)).drop (0 + Y.toNat * 1 + 1))] = [rB (sw zs i j)] := by
  subst h k
  exact congrArg (fun c => [Blk.row 1 1 c]) (sw_flat hi hj)
theorem set_perm : ∀ {zs : List Int} {i : Nat} {x : Int} (h : zs[i]? = some x) (y : Int), (y :: zs).Perm (x :: zs.set i y)
  | z :: r, 0, x, h, y => by
    obtain rfl : z = x := by simpa using h
    exact List.Perm.swap _ _ _
  | z :: r, i + 1, x, h, y => by
    have := set_perm (zs := r) (i := i) (by simpa using h) y
    simp only [List.set_cons_succ]
    exact ((List.Perm.swap z y r).trans (this.cons z)).trans (List.Perm.swap x z _)
theorem sw_perm {zs : List Int} {i j : Nat} (hi : i < zs.length) (hj : j < zs.length) : (sw zs i j).Perm zs := by
  have h1 := set_perm (g_some hi) (g zs j)
  have h2 : (zs.set i (g zs j))[j]? = some (g zs j) := by
    rw [List.getElem?_set]
    by_cases h : i = j
    · subst h; simp [hi]
    · rw [if_neg h]; exact g_some hj
  have h3 := set_perm h2 (g zs i)
  exact ((List.perm_cons (g zs j)).1 (h1.trans h3)).symm
/-- What is moved within a to b. -/
structure Sg (a b : Nat) (zs zs' : List Int) : Prop where
  len : zs'.length = zs.length
  out : ∀ i, i < a ∨ b ≤ i → g zs' i = g zs i
  src : ∀ i, a ≤ i → i < b → ∃ j, a ≤ j ∧ j < b ∧ g zs' i = g zs j
  perm : zs'.Perm zs
theorem Sg.refl (a b : Nat) (zs : List Int) : Sg a b zs zs := ⟨rfl, fun _ _ => rfl, fun i h1 h2 => ⟨i, h1, h2, rfl⟩, .refl _⟩
theorem Sg.trans {a b : Nat} {x y z : List Int} (h : Sg a b x y) (k : Sg a b y z) : Sg a b x z :=
  ⟨k.len.trans h.len, fun i hi => (k.out i hi).trans (h.out i hi), fun i h1 h2 => by
    obtain ⟨j, j1, j2, e⟩ := k.src i h1 h2
    obtain ⟨m, m1, m2, e'⟩ := h.src j j1 j2
    exact ⟨m, m1, m2, e.trans e'⟩, k.perm.trans h.perm⟩
theorem Sg.wide {a b c d : Nat} {x y : List Int} (h : Sg a b x y) (h1 : c ≤ a) (h2 : b ≤ d) : Sg c d x y :=
  ⟨h.len, fun i hi => h.out i (by omega), fun i k1 k2 => by
    by_cases hi : a ≤ i ∧ i < b
    · obtain ⟨j, j1, j2, e⟩ := h.src i hi.1 hi.2
      exact ⟨j, by omega, by omega, e⟩
    · exact ⟨i, k1, k2, h.out i (by omega)⟩, h.perm⟩
theorem Sg.sw {a b i j : Nat} {zs : List Int} (hi : a ≤ i ∧ i < b) (hj : a ≤ j ∧ j < b) (hb : b ≤ zs.length) : Sg a b zs (sw zs i j) :=
  ⟨sw_len zs i j, fun k hk => by rw [g_sw (by omega) (by omega), if_neg (by omega), if_neg (by omega)], fun k h1 h2 => by
    rw [g_sw (by omega) (by omega)]
    split
    · exact ⟨i, hi.1, hi.2, rfl⟩
    · split
      · exact ⟨j, hj.1, hj.2, rfl⟩
      · exact ⟨k, h1, h2, rfl⟩, sw_perm (by omega) (by omega)⟩
/-- Rising from a to b. -/
def So (a b : Nat) (zs : List Int) : Prop := ∀ p q, a ≤ p → p ≤ q → q < b → g zs p ≤ g zs q
theorem wI {x : Int} (h : -9223372036854775808 ≤ x ∧ x < 9223372036854775808) : IntKind.i64.wrap x = x := wrap64 h.1 h.2
theorem ok100 (x : Int) : Go.Am.Pure Try.prog 100 [.d (uD x)] (bI false) := by
  refine CallOk.of tysOk mixed od100 Try.func100 rfl rfl code100 ?_
  refine W.ret (RetQ.pure rfl (ret_bI ?_))
  simp
theorem ok89 (x y : Int) : Go.Am.Pure Try.prog 89 [.d (uD x), .d (uD y)] (bI (decide (x < y))) := by
  refine CallOk.of tysOk mixed od89 Try.func89 rfl rfl code89 ?_
  refine W.pure (ok100 x) rfl rfl ?_
  repeat (first | refine W.ite_t rfl ?_ | refine W.ite_f rfl ?_)
  exact W.ret (RetQ.pure rfl rfl)
theorem keepR (q : Nat) (h : q < 1) : [0][q]? = some q := by
  obtain rfl : q = 0 := by omega
  rfl
/-- What a function that moves within a to b leaves. -/
def Mv (a b : Nat) (zs : List Int) (X : AV → List Int → Prop) (v : AV) (s : Store) : Prop := ∃ zs', s = [rB zs'] ∧ Sg a b zs zs' ∧ X v zs'
set_option maxHeartbeats 2000000 in
/-- Insertion. -/
theorem ok83 {n : Nat} (zs : List Int) (a b : Nat) (hl0 : zs.length = n) (hab : a ≤ b) (hb : b ≤ n) (hn : n ≤ 1000000) :
    CallOk Try.prog 83 [rV n, .d (nI a), .d (nI b)] [rB zs] (Mv a b zs fun v zs' => v = .tuple [] ∧ So a b zs') := by
  refine CallOk.of tysOk mixed od83 Try.func83 rfl rfl code83 ?_
  have so1 : So a (a + 1) zs := fun p q h1 h2 h3 => by
    have : p = q := by omega
    rw [this]; exact Int.le_refl _
  refine W.loop (fun k fr σ => ∃ (i : Nat) (ys : List Int), fr = [(0, rV n), (1, .d (nI a)), (2, .d (nI b)), (6, .d (nI i))] ∧ σ = [rB ys] ∧ Sg a b zs ys ∧ a < i ∧ (i ≤ b ∨ i = a + 1) ∧ So a i ys ∧ k = b - i) (b - (a + 1))
    (Start.of [0, 1, 2, 6] [] (by simp)) ⟨a + 1, zs, by rw [show ((a + 1 : Nat) : Int) = IntKind.i64.wrap ((a : Int) + 1) from by rw [wI (by omega)]; rfl]; rfl, rfl, Sg.refl a b zs, by omega, .inr rfl, so1, rfl⟩ ?_
  rintro k fr σ ⟨i, ys, rfl, rfl, hS, hi, hib, hso, rfl⟩
  by_cases hlt : i < b
  · refine W.ite_t (decide_eq_true (by omega)) ?_
    refine W.loop (fun k fr σ => ∃ (j : Nat) (xs : List Int), fr = [(0, rV n), (1, .d (nI a)), (2, .d (nI b)), (6, .d (nI i)), (7, .d (nI j))] ∧ σ = [rB xs] ∧ Sg a b zs xs ∧ a ≤ j ∧ j ≤ i ∧ (∀ p q, a ≤ p → p < q → q ≤ i → q ≠ j → g xs p ≤ g xs q) ∧ k = j - a) (i - a)
      (Start.of [0, 1, 2, 6, 7] [] (by simp)) ⟨i, ys, rfl, rfl, hS, by omega, by omega, fun p q h1 h2 h3 h4 => hso p q h1 (by omega) (by omega), rfl⟩ ?_
    rintro k fr σ ⟨j, xs, rfl, rfl, hX, h1, h2, h3, rfl⟩
    have hl := hX.len
    have gi : IntKind.i64.wrap ((i : Int) + 1) = ((i + 1 : Nat) : Int) := by rw [wI (by omega)]; rfl
    have done : (∀ p, a ≤ p → p < j → g xs p ≤ g xs j) → So a (i + 1) xs := fun hj p q k1 k2 k3 => by
      by_cases hpq : p = q
      · rw [hpq]; exact Int.le_refl _
      · by_cases hqj : q = j
        · rw [hqj]; exact hj p k1 (by omega)
        · exact h3 p q k1 (by omega) (by omega) hqj
    by_cases hja : a < j
    · have ej : IntKind.i64.wrap ((j : Int) - 1) = ((j - 1 : Nat) : Int) := by rw [wI (by omega)]; omega
      have c1 : decide ((j : Int) > (a : Int)) = true := decide_eq_true (by omega)
      repeat (first | refine W.ite_t c1 ?_ | refine W.ite_t rfl ?_ | refine W.ite_f rfl ?_)
      refine W.need (ixI rfl (show j < n by omega)) ?_
      repeat (first | refine W.ite_t c1 ?_ | refine W.ite_t rfl ?_ | refine W.ite_f rfl ?_)
      refine W.ld (eEI rfl (show j < xs.length by omega)) ?_
      repeat (first | refine W.ite_t c1 ?_ | refine W.ite_t rfl ?_ | refine W.ite_f rfl ?_)
      refine W.need (ixI ej (by omega)) ?_
      repeat (first | refine W.ite_t c1 ?_ | refine W.ite_t rfl ?_ | refine W.ite_f rfl ?_)
      refine W.ld (eEI ej (by omega)) ?_
      repeat (first | refine W.ite_t c1 ?_ | refine W.ite_t rfl ?_ | refine W.ite_f rfl ?_)
      refine W.pure (ok89 _ _) rfl rfl ?_
      repeat (first | refine W.ite_t c1 ?_ | refine W.ite_t rfl ?_ | refine W.ite_f rfl ?_)
      refine W.ite (fun c => ?_) (fun c => ?_)
      · have hc : g xs j < g xs (j - 1) := of_decide_eq_true c
        refine W.need (ixI ej (show j - 1 < n by omega)) ?_
        refine W.ld (eEI ej (show j - 1 < xs.length by omega)) ?_
        refine W.need (ixI rfl (show j < n by omega)) ?_
        refine W.ld (eEI rfl (show j < xs.length by omega)) ?_
        refine W.need (ixI rfl (show j < n by omega)) ?_
        refine W.need (st0 rfl (show j < xs.length by omega)) ?_
        refine W.need (ixI ej (show j - 1 < n by omega)) ?_
        refine W.need (st1 rfl ej (show j < xs.length by omega) (show j - 1 < xs.length by omega)) ?_
        refine W.ret ⟨_, _, _, ?_, Trim.of [0, 1, 2, 6, 7] [0] (by decide) (by simp) keepR, j - 1, sw xs j (j - 1), ?_, ?_, hX.trans (Sg.sw ⟨by omega, by omega⟩ ⟨by omega, by omega⟩ (by omega)), by omega, by omega, ?_, rfl⟩
        · omega
        · rw [← ej]; rfl
        · exact swI rfl ej (by omega) (by omega)
        · intro p q k1 k2 k3 k4
          rw [g_sw (by omega) (by omega), g_sw (by omega) (by omega)]
          by_cases q1 : q = j
          · subst q1
            rw [if_neg k4, if_pos rfl]
            by_cases p1 : p = q - 1
            · rw [if_pos p1]; omega
            · rw [if_neg p1, if_neg (by omega)]
              exact h3 p (q - 1) k1 (by omega) (by omega) (by omega)
          · rw [if_neg k4, if_neg q1]
            by_cases p1 : p = j - 1
            · rw [if_pos p1]; exact h3 j q (by omega) (by omega) k3 q1
            · rw [if_neg p1]
              by_cases p2 : p = j
              · rw [if_pos p2]; exact h3 (j - 1) q (by omega) (by omega) k3 q1
              · rw [if_neg p2]; exact h3 p q k1 k2 k3 q1
      · have hc : ¬ g xs j < g xs (j - 1) := of_decide_eq_false c
        refine W.ret ?_
        refine W.ret ⟨_, _, _, ?_, Trim.of [0, 1, 2, 6] [0] (by decide) (by simp) keepR, i + 1, xs, ?_, rfl, hX, by omega, by omega, done ?_, rfl⟩
        · omega
        · rw [← gi]; rfl
        · intro p p1 p2
          by_cases e : p = j - 1
          · rw [e]; omega
          · exact Int.le_trans (h3 p (j - 1) p1 (by omega) (by omega) (by omega)) (by omega)
    · have c1 : decide ((j : Int) > (a : Int)) = false := decide_eq_false (by omega)
      repeat (first | refine W.ite_f c1 ?_ | refine W.ite_t rfl ?_ | refine W.ite_f rfl ?_)
      refine W.ret ?_
      refine W.ret ⟨_, _, _, ?_, Trim.of [0, 1, 2, 6] [0] (by decide) (by simp) keepR, i + 1, xs, ?_, rfl, hX, by omega, by omega, done ?_, rfl⟩
      · omega
      · rw [← gi]; rfl
      · intro p p1 p2; omega
  · refine W.ite_f (decide_eq_false (by omega)) ?_
    refine W.ret (W.ret (RetQ.all ⟨ys, rfl, hS, rfl, ?_⟩))
    rcases hib with h | h
    · obtain rfl : i = b := by omega
      exact hso
    · intro p q h1 h2 h3
      exact hso p q h1 h2 (by omega)
end Go.Proofs.Ytddhlmejaobcgaa.Pi

set_option maxRecDepth 100000
set_option linter.unusedVariables false
set_option linter.unusedSimpArgs false
/- Sorting in place: heaps. -/
namespace Go.Proofs.Ytddhlmejaobcgaa.Pi
open Go Go.Am Co
def od97 : Ords := [(3, [0, 1, 2, 3, 4, 5, 6, 7, 8, 9, 10, 11, 12, 13, 14, 15, 16, 17, 1018, 19]), (5, [0, 1, 2, 3, 4, 5, 6, 7, 8, 9, 10, 11, 1012, 13]), (6, [0, 1, 2, 3, 4, 5, 6, 7, 8, 9, 10, 11, 12, 13, 14, 15, 16, 17, 18, 19, 20, 1021, 22, 1023])]
theorem code97 : codeB Try.f97.ntmps od97 (match Try.f97.body with | some c => c | none => .skip) = true := by kernel_rfl
def od84 : Ords := [(10, [0, 1, 2, 3, 4, 5, 6, 7, 8, 9, 10, 11, 12, 13, 14, 15, 16, 1017, 18, 1019])]
theorem code84 : codeB Try.f84.ntmps od84 (match Try.f84.body with | some c => c | none => .skip) = true := by kernel_rfl
/-- A heap below lo. -/
def Hp (f lo hi : Nat) (zs : List Int) : Prop := ∀ c, 1 ≤ c → c < hi → lo ≤ (c - 1) / 2 → g zs (f + c) ≤ g zs (f + (c - 1) / 2)
/-- A heap but for one place. -/
structure Hs (f lo hi r : Nat) (xs : List Int) : Prop where
  a : ∀ c, 1 ≤ c → c < hi → lo ≤ (c - 1) / 2 → (c - 1) / 2 ≠ r → g xs (f + c) ≤ g xs (f + (c - 1) / 2)
  b : ∀ c, 1 ≤ c → c < hi → (c - 1) / 2 = r → 1 ≤ r → lo ≤ (r - 1) / 2 → g xs (f + c) ≤ g xs (f + (r - 1) / 2)
theorem Hs.leaf {f lo hi r : Nat} {xs : List Int} (h : Hs f lo hi r xs) (hr : hi ≤ 2 * r + 1) : Hp f lo hi xs := fun c h1 h2 h3 => h.a c h1 h2 h3 (by omega)
theorem Hs.done {f lo hi r ch : Nat} {xs : List Int} (h : Hs f lo hi r xs) (hm : ∀ c, 1 ≤ c → c < hi → (c - 1) / 2 = r → g xs (f + c) ≤ g xs (f + ch)) (hc : ¬ g xs (f + r) < g xs (f + ch)) : Hp f lo hi xs := fun c h1 h2 h3 => by
  by_cases hr : (c - 1) / 2 = r
  · have := hm c h1 h2 hr
    rw [hr]; omega
  · exact h.a c h1 h2 h3 hr
theorem Hs.step {f lo hi r ch : Nat} {xs : List Int} (hl : f + hi ≤ xs.length) (h : Hs f lo hi r xs) (hlr : lo ≤ r) (hm : ∀ c, 1 ≤ c → c < hi → (c - 1) / 2 = r → g xs (f + c) ≤ g xs (f + ch)) (hch : ch < hi) (h1 : 1 ≤ ch) (hp : (ch - 1) / 2 = r) (hc : g xs (f + r) < g xs (f + ch)) :
    Hs f lo hi ch (sw xs (f + r) (f + ch)) := by
  have gs := fun k => g_sw (zs := xs) (i := f + r) (j := f + ch) (by omega) (by omega) k
  refine ⟨fun c c1 c2 c3 c4 => ?_, fun c c1 c2 c3 c4 c5 => ?_⟩
  · rw [gs, gs]
    by_cases p1 : (c - 1) / 2 = r
    · rw [if_neg (show ¬ f + (c - 1) / 2 = f + ch by omega), if_pos (show f + (c - 1) / 2 = f + r by omega)]
      by_cases e : c = ch
      · rw [if_pos (by omega)]; omega
      · rw [if_neg (by omega), if_neg (by omega)]; exact hm c c1 c2 p1
    · rw [if_neg (show ¬ f + (c - 1) / 2 = f + ch by omega), if_neg (show ¬ f + (c - 1) / 2 = f + r by omega), if_neg (show ¬ f + c = f + ch by omega)]
      by_cases e : c = r
      · rw [if_pos (by omega)]
        have := h.b ch h1 hch hp (by omega) (by rw [← e]; exact c3)
        rw [← e] at this; exact this
      · rw [if_neg (by omega)]; exact h.a c c1 c2 c3 p1
  · rw [gs, gs, if_neg (by omega), if_neg (by omega), if_neg (by omega), if_pos (by omega)]
    have := h.a c c1 c2 (by omega) (by omega)
    rw [c3] at this; exact this
theorem Hp.max {f hi : Nat} {xs : List Int} (h : Hp f 0 hi xs) : ∀ c, c < hi → g xs (f + c) ≤ g xs f := by
  intro c
  induction c using Nat.strongRecOn with
  | ind c ih =>
    intro hc
    by_cases h0 : c = 0
    · subst h0; exact Int.le_refl _
    · exact Int.le_trans (h c (by omega) hc (Nat.zero_le _)) (ih ((c - 1) / 2) (by omega) (by omega))
set_option maxHeartbeats 4000000 in
theorem ok97 {n : Nat} (zs : List Int) (lo hi f : Nat) (hl0 : zs.length = n) (hb : f + hi ≤ n) (hlo : lo ≤ 1000000) (hn : n ≤ 1000000) (hH : Hp f (lo + 1) hi zs) :
    CallOk Try.prog 97 [rV n, .d (nI lo), .d (nI hi), .d (nI f)] [rB zs] (Mv f (f + hi) zs fun v zs' => v = .tuple [] ∧ Hp f lo hi zs') := by
  refine CallOk.of tysOk mixed od97 Try.func97 rfl rfl code97 ?_
  have h0 : Hs f lo hi lo zs := ⟨fun c h1 h2 h3 h4 => hH c h1 h2 (by omega), fun c h1 h2 h3 h4 h5 => by omega⟩
  clear hH
  refine W.loop (fun k fr σ => ∃ (r : Nat) (xs : List Int), fr = [(0, rV n), (1, .d (nI lo)), (2, .d (nI hi)), (3, .d (nI f)), (8, .d (nI r))] ∧ σ = [rB xs] ∧ Sg f (f + hi) zs xs ∧ lo ≤ r ∧ r ≤ 1000000 ∧ Hs f lo hi r xs ∧ k = hi - r) (hi - lo)
    (Start.of [0, 1, 2, 3, 8] [] (by simp)) ⟨lo, zs, rfl, rfl, Sg.refl _ _ _, by omega, by omega, h0, rfl⟩ ?_
  rintro k fr σ ⟨r, xs, rfl, rfl, hX, hlr, hr, hH, rfl⟩
  have hl := hX.len
  have ec : IntKind.i64.wrap (IntKind.i64.wrap (2 * (r : Int)) + 1) = ((2 * r + 1 : Nat) : Int) := by rw [wI (x := 2 * (r : Int)) (by omega), wI (by omega)]; rfl
  have e2 : IntKind.i64.wrap (IntKind.i64.wrap (IntKind.i64.wrap (2 * (r : Int)) + 1) + 1) = ((2 * r + 2 : Nat) : Int) := by rw [ec, wI (by omega)]; rfl
  by_cases h1 : 2 * r + 1 ≥ hi
  · refine W.ite_t (decide_eq_true (by rw [ec]; omega)) ?_
    exact W.ret (W.ret (RetQ.all ⟨xs, rfl, hX, rfl, hH.leaf (by omega)⟩))
  · have er : IntKind.i64.wrap ((f : Int) + (r : Int)) = ((f + r : Nat) : Int) := by rw [wI (by omega)]; rfl
    have e3 : IntKind.i64.wrap ((f : Int) + IntKind.i64.wrap (IntKind.i64.wrap (2 * (r : Int)) + 1)) = ((f + (2 * r + 1) : Nat) : Int) := by rw [ec, wI (by omega)]; rfl
    have e4 : IntKind.i64.wrap (IntKind.i64.wrap ((f : Int) + IntKind.i64.wrap (IntKind.i64.wrap (2 * (r : Int)) + 1)) + 1) = ((f + (2 * r + 2) : Nat) : Int) := by rw [e3, wI (by omega)]; rfl
    refine W.ite_f (decide_eq_false (by rw [ec]; omega)) ?_
    by_cases h2 : 2 * r + 2 < hi
    · have c2 : decide (IntKind.i64.wrap (IntKind.i64.wrap (IntKind.i64.wrap (2 * (r : Int)) + 1) + 1) < (hi : Int)) = true := decide_eq_true (by rw [e2]; omega)
      repeat (first | refine W.ite_t c2 ?_ | refine W.ite_t rfl ?_ | refine W.ite_f rfl ?_)
      refine W.need (ixI e3 (show f + (2 * r + 1) < n by omega)) ?_
      repeat (first | refine W.ite_t c2 ?_ | refine W.ite_t rfl ?_ | refine W.ite_f rfl ?_)
      refine W.ld (eEI e3 (show f + (2 * r + 1) < xs.length by omega)) ?_
      repeat (first | refine W.ite_t c2 ?_ | refine W.ite_t rfl ?_ | refine W.ite_f rfl ?_)
      refine W.need (ixI e4 (show f + (2 * r + 2) < n by omega)) ?_
      repeat (first | refine W.ite_t c2 ?_ | refine W.ite_t rfl ?_ | refine W.ite_f rfl ?_)
      refine W.ld (eEI e4 (show f + (2 * r + 2) < xs.length by omega)) ?_
      repeat (first | refine W.ite_t c2 ?_ | refine W.ite_t rfl ?_ | refine W.ite_f rfl ?_)
      refine W.pure (ok89 _ _) rfl rfl ?_
      repeat (first | refine W.ite_t c2 ?_ | refine W.ite_t rfl ?_ | refine W.ite_f rfl ?_)
      refine W.ite (fun c => ?_) (fun c => ?_)
      · have hc0 : g xs (f + (2 * r + 1)) < g xs (f + (2 * r + 2)) := of_decide_eq_true c
        have hm : ∀ c, 1 ≤ c → c < hi → (c - 1) / 2 = r → g xs (f + c) ≤ g xs (f + (2 * r + 2)) := fun c q1 q2 q3 => by
          have : c = 2 * r + 1 ∨ c = 2 * r + 2 := by omega
          rcases this with rfl | rfl
          · omega
          · exact Int.le_refl _
        have e5 : IntKind.i64.wrap ((f : Int) + IntKind.i64.wrap (IntKind.i64.wrap (IntKind.i64.wrap (2 * (r : Int)) + 1) + 1)) = ((f + (2 * r + 2) : Nat) : Int) := by rw [e2, wI (by omega)]; rfl
        refine W.need (ixI er (show f + r < n by omega)) ?_
        refine W.ld (eEI er (show f + r < xs.length by omega)) ?_
        refine W.need (ixI e5 (show f + (2 * r + 2) < n by omega)) ?_
        refine W.ld (eEI e5 (show f + (2 * r + 2) < xs.length by omega)) ?_
        refine W.pure (ok89 _ _) rfl rfl ?_
        refine W.ite (fun c => ?_) (fun c => ?_)
        · have hc : ¬ g xs (f + r) < g xs (f + ((2 * r + 2))) := of_decide_eq_false (by simpa using c)
          exact W.ret (W.ret (RetQ.all ⟨xs, rfl, hX, rfl, hH.done hm hc⟩))
        · have hc : g xs (f + r) < g xs (f + ((2 * r + 2))) := of_decide_eq_true (by simpa using c)
          refine W.need (ixI e5 (show f + ((2 * r + 2)) < n by omega)) ?_
          refine W.ld (eEI e5 (show f + ((2 * r + 2)) < xs.length by omega)) ?_
          refine W.need (ixI er (show f + r < n by omega)) ?_
          refine W.ld (eEI er (show f + r < xs.length by omega)) ?_
          refine W.need (ixI er (show f + r < n by omega)) ?_
          refine W.need (st0 er (show f + r < xs.length by omega)) ?_
          refine W.need (ixI e5 (show f + ((2 * r + 2)) < n by omega)) ?_
          refine W.need (st1 er e5 (show f + r < xs.length by omega) (show f + ((2 * r + 2)) < xs.length by omega)) ?_
          refine W.ret ⟨_, _, _, ?_, Trim.of [0, 1, 2, 3, 8] [0] (by decide) (by simp) keepR, (2 * r + 2), sw xs (f + r) (f + ((2 * r + 2))), ?_, swI er e5 (by omega) (by omega), hX.trans (Sg.sw ⟨by omega, by omega⟩ ⟨by omega, by omega⟩ (by omega)), by omega, by omega, hH.step (by omega) hlr hm (by omega) (by omega) (by omega) hc, rfl⟩
          · omega
          · rw [← e2]; rfl
      · have hc0 : ¬ g xs (f + (2 * r + 1)) < g xs (f + (2 * r + 2)) := of_decide_eq_false c
        have hm : ∀ c, 1 ≤ c → c < hi → (c - 1) / 2 = r → g xs (f + c) ≤ g xs (f + (2 * r + 1)) := fun c q1 q2 q3 => by
          have : c = 2 * r + 1 ∨ c = 2 * r + 2 := by omega
          rcases this with rfl | rfl
          · exact Int.le_refl _
          · omega
        have e5 : IntKind.i64.wrap ((f : Int) + IntKind.i64.wrap (IntKind.i64.wrap (2 * (r : Int)) + 1)) = ((f + (2 * r + 1) : Nat) : Int) := by rw [ec, wI (by omega)]; rfl
        refine W.need (ixI er (show f + r < n by omega)) ?_
        refine W.ld (eEI er (show f + r < xs.length by omega)) ?_
        refine W.need (ixI e5 (show f + (2 * r + 1) < n by omega)) ?_
        refine W.ld (eEI e5 (show f + (2 * r + 1) < xs.length by omega)) ?_
        refine W.pure (ok89 _ _) rfl rfl ?_
        refine W.ite (fun c => ?_) (fun c => ?_)
        · have hc : ¬ g xs (f + r) < g xs (f + ((2 * r + 1))) := of_decide_eq_false (by simpa using c)
          exact W.ret (W.ret (RetQ.all ⟨xs, rfl, hX, rfl, hH.done hm hc⟩))
        · have hc : g xs (f + r) < g xs (f + ((2 * r + 1))) := of_decide_eq_true (by simpa using c)
          refine W.need (ixI e5 (show f + ((2 * r + 1)) < n by omega)) ?_
          refine W.ld (eEI e5 (show f + ((2 * r + 1)) < xs.length by omega)) ?_
          refine W.need (ixI er (show f + r < n by omega)) ?_
          refine W.ld (eEI er (show f + r < xs.length by omega)) ?_
          refine W.need (ixI er (show f + r < n by omega)) ?_
          refine W.need (st0 er (show f + r < xs.length by omega)) ?_
          refine W.need (ixI e5 (show f + ((2 * r + 1)) < n by omega)) ?_
          refine W.need (st1 er e5 (show f + r < xs.length by omega) (show f + ((2 * r + 1)) < xs.length by omega)) ?_
          refine W.ret ⟨_, _, _, ?_, Trim.of [0, 1, 2, 3, 8] [0] (by decide) (by simp) keepR, (2 * r + 1), sw xs (f + r) (f + ((2 * r + 1))), ?_, swI er e5 (by omega) (by omega), hX.trans (Sg.sw ⟨by omega, by omega⟩ ⟨by omega, by omega⟩ (by omega)), by omega, by omega, hH.step (by omega) hlr hm (by omega) (by omega) (by omega) hc, rfl⟩
          · omega
          · rw [← ec]; rfl
    · have c2 : decide (IntKind.i64.wrap (IntKind.i64.wrap (IntKind.i64.wrap (2 * (r : Int)) + 1) + 1) < (hi : Int)) = false := decide_eq_false (by rw [e2]; omega)
      have hm : ∀ c, 1 ≤ c → c < hi → (c - 1) / 2 = r → g xs (f + c) ≤ g xs (f + (2 * r + 1)) := fun c q1 q2 q3 => by
        have : c = 2 * r + 1 := by omega
        rw [this]; exact Int.le_refl _
      repeat (first | refine W.ite_f c2 ?_ | refine W.ite_t rfl ?_ | refine W.ite_f rfl ?_)
      have e5 : IntKind.i64.wrap ((f : Int) + IntKind.i64.wrap (IntKind.i64.wrap (2 * (r : Int)) + 1)) = ((f + (2 * r + 1) : Nat) : Int) := by rw [ec, wI (by omega)]; rfl
      refine W.need (ixI er (show f + r < n by omega)) ?_
      refine W.ld (eEI er (show f + r < xs.length by omega)) ?_
      refine W.need (ixI e5 (show f + (2 * r + 1) < n by omega)) ?_
      refine W.ld (eEI e5 (show f + (2 * r + 1) < xs.length by omega)) ?_
      refine W.pure (ok89 _ _) rfl rfl ?_
      refine W.ite (fun c => ?_) (fun c => ?_)
      · have hc : ¬ g xs (f + r) < g xs (f + ((2 * r + 1))) := of_decide_eq_false (by simpa using c)
        exact W.ret (W.ret (RetQ.all ⟨xs, rfl, hX, rfl, hH.done hm hc⟩))
      · have hc : g xs (f + r) < g xs (f + ((2 * r + 1))) := of_decide_eq_true (by simpa using c)
        refine W.need (ixI e5 (show f + ((2 * r + 1)) < n by omega)) ?_
        refine W.ld (eEI e5 (show f + ((2 * r + 1)) < xs.length by omega)) ?_
        refine W.need (ixI er (show f + r < n by omega)) ?_
        refine W.ld (eEI er (show f + r < xs.length by omega)) ?_
        refine W.need (ixI er (show f + r < n by omega)) ?_
        refine W.need (st0 er (show f + r < xs.length by omega)) ?_
        refine W.need (ixI e5 (show f + ((2 * r + 1)) < n by omega)) ?_
        refine W.need (st1 er e5 (show f + r < xs.length by omega) (show f + ((2 * r + 1)) < xs.length by omega)) ?_
        refine W.ret ⟨_, _, _, ?_, Trim.of [0, 1, 2, 3, 8] [0] (by decide) (by simp) keepR, (2 * r + 1), sw xs (f + r) (f + ((2 * r + 1))), ?_, swI er e5 (by omega) (by omega), hX.trans (Sg.sw ⟨by omega, by omega⟩ ⟨by omega, by omega⟩ (by omega)), by omega, by omega, hH.step (by omega) hlr hm (by omega) (by omega) (by omega) hc, rfl⟩
        · omega
        · rw [← ec]; rfl
/-- Pairs of which the greater place is q or above are in order. -/
def Up (a q b : Nat) (zs : List Int) : Prop := ∀ i j, a ≤ i → i ≤ j → a + q ≤ j → j < b → g zs i ≤ g zs j
set_option maxHeartbeats 4000000 in
theorem ok84 {n : Nat} (zs : List Int) (a b : Nat) (hl0 : zs.length = n) (hab : a < b) (hb : b ≤ n) (hn : n ≤ 1000000) :
    CallOk Try.prog 84 [rV n, .d (nI a), .d (nI b)] [rB zs] (Mv a b zs fun v zs' => v = .tuple [] ∧ So a b zs') := by
  refine CallOk.of tysOk mixed od84 Try.func84 rfl rfl code84 ?_
  have eh : IntKind.i64.wrap ((b : Int) - (a : Int)) = ((b - a : Nat) : Int) := by rw [wI (by omega)]; omega
  obtain ⟨h, hh⟩ : ∃ h, b - a = h := ⟨_, rfl⟩
  rw [hh] at eh
  have e1 : IntKind.i64.wrap (IntKind.i64.wrap ((b : Int) - (a : Int)) - 1) = ((h - 1 : Nat) : Int) := by rw [eh, wI (by omega)]; omega
  have e2 : IntKind.i64.wrap ((IntKind.i64.wrap (IntKind.i64.wrap ((b : Int) - (a : Int)) - 1)).tdiv 2) = (((h - 1) / 2 : Nat) : Int) := by
    rw [e1, Int.tdiv_eq_ediv_of_nonneg (by omega), wI (by omega)]; rfl
  refine W.need (by decide) ?_
  refine W.loop (fun k fr σ => ∃ (iv : Int) (xs : List Int), fr = [(0, rV n), (1, .d (nI a)), (2, .d (nI b)), (6, .d (nI a)), (7, .d (nI 0)), (8, .d (nI h)), (9, .d (nI iv))] ∧ σ = [rB xs] ∧ Sg a b zs xs ∧ -1 ≤ iv ∧ iv < h ∧ Hp a (iv + 1).toNat h xs ∧ k = (iv + 1).toNat) ((h - 1) / 2 + 1)
    (Start.of [0, 1, 2, 6, 7, 8, 9] [] (by simp)) ⟨(((h - 1) / 2 : Nat) : Int), zs, by rw [← e2, ← eh]; rfl, rfl, Sg.refl _ _ _, by omega, by omega, fun c c1 c2 c3 => by omega, by omega⟩ ?_
  rintro k fr σ ⟨iv, xs, rfl, rfl, hX, i1, i2, hH, rfl⟩
  have hl := hX.len
  by_cases hneg : iv < 0
  · obtain rfl : iv = -1 := by omega
    refine W.ite_f (decide_eq_false (by decide)) ?_
    refine W.ret ?_
    have e3 : IntKind.i64.wrap ((h : Int) - 1) = ((h : Int) - 1) := by rw [wI (by omega)]
    refine W.loop (fun k fr σ => ∃ (iv : Int) (ys : List Int), fr = [(0, rV n), (1, .d (nI a)), (2, .d (nI b)), (6, .d (nI a)), (7, .d (nI 0)), (8, .d (nI h)), (10, .d (nI iv))] ∧ σ = [rB ys] ∧ Sg a b zs ys ∧ -1 ≤ iv ∧ iv < h ∧ Hp a 0 (iv + 1).toNat ys ∧ Up a (iv + 1).toNat b ys ∧ k = (iv + 1).toNat) h
      (Start.of [0, 1, 2, 6, 7, 8, 10] [] (by simp)) ⟨(h : Int) - 1, xs, by show [_, _, _, _, _, _, (10, AV.d (nI (IntKind.i64.wrap ((h : Int) - 1))))] = _; rw [e3]; rfl, rfl, hX, by omega, by omega, by rw [show ((h : Int) - 1 + 1).toNat = h by omega]; exact hH, fun i j q1 q2 q3 q4 => by omega, by omega⟩ ?_
    clear hH hX hl
    rintro k fr σ ⟨iv, ys, rfl, rfl, hX, i1, i2, hH, hU, rfl⟩
    have hl := hX.len
    by_cases hneg : iv < 0
    · obtain rfl : iv = -1 := by omega
      refine W.ite_f (decide_eq_false (by decide)) ?_
      exact W.ret (W.ret (RetQ.all ⟨ys, rfl, hX, rfl, fun p q p1 p2 p3 => hU p q p1 p2 (by show a + 0 ≤ q; omega) p3⟩))
    · obtain ⟨m, rfl⟩ := Int.eq_ofNat_of_zero_le (show 0 ≤ iv by omega)
      refine W.ite_t (decide_eq_true (by omega)) ?_
      have em : ((m : Int) + 1).toNat = m + 1 := by omega
      rw [em] at hH hU
      have ey : IntKind.i64.wrap ((a : Int) + (m : Int)) = ((a + m : Nat) : Int) := by rw [wI (by omega)]; rfl
      have ed : IntKind.i64.wrap ((m : Int) - 1) = (m : Int) - 1 := by rw [wI (by omega)]
      refine W.need (ixI ey (show a + m < n by omega)) ?_
      refine W.ld (eEI ey (show a + m < ys.length by omega)) ?_
      refine W.need (ixI (show (a : Int) = (a : Int) from rfl) (show a < n by omega)) ?_
      refine W.ld (eEI (show (a : Int) = (a : Int) from rfl) (show a < ys.length by omega)) ?_
      refine W.need (ixI (show (a : Int) = (a : Int) from rfl) (show a < n by omega)) ?_
      refine W.need (st0 (show (a : Int) = (a : Int) from rfl) (show a < ys.length by omega)) ?_
      refine W.need (ixI ey (show a + m < n by omega)) ?_
      refine W.need (st1 (show (a : Int) = (a : Int) from rfl) ey (show a < ys.length by omega) (show a + m < ys.length by omega)) ?_
      have hP : Hp a (0 + 1) m (sw ys a (a + m)) := fun c c1 c2 c3 => by
        rw [g_sw (by omega) (by omega), g_sw (by omega) (by omega), if_neg (by omega), if_neg (by omega), if_neg (by omega), if_neg (by omega)]
        exact hH c c1 (by omega) (by omega)
      have hmx := hH.max
      refine W.callT [0] (ok97 (n := n) (sw ys a (a + m)) 0 m a (by rw [sw_len]; omega) (by omega) (by omega) hn hP) (by decide) rfl rfl rfl (swI rfl ey (by omega) (by omega)) ?_
      rintro v σ ⟨xs', rfl, hS', rfl, hH'⟩
      have hS0 : Sg a b ys (sw ys a (a + m)) := Sg.sw ⟨by omega, by omega⟩ ⟨by omega, by omega⟩ (by omega)
      refine W.ret ⟨_, _, _, ?_, Trim.of [0, 1, 2, 6, 7, 8, 10] [0] (by decide) (by intro q hq; obtain rfl := List.mem_singleton.1 hq; exact Nat.zero_lt_one) keepR, (m : Int) - 1, xs', ?_, rfl, hX.trans (hS0.trans (hS'.wide (Nat.le_refl _) (by omega))), by omega, by omega, ?_, ?_, rfl⟩
      · omega
      · show [_, _, _, _, _, _, (10, AV.d (nI (IntKind.i64.wrap ((m : Int) - 1))))] = _; rw [ed]; rfl
      · rw [show ((m : Int) - 1 + 1).toNat = m by omega]; exact hH'
      · rw [show ((m : Int) - 1 + 1).toNat = m by omega]
        intro i j j1 j2 j3 j4
        have gj : g xs' j = g (sw ys a (a + m)) j := hS'.out j (by omega)
        by_cases hij : i = j
        · rw [hij]; exact Int.le_refl _
        · -- the lesser place
          have low : ∀ q, a ≤ q → q < a + m → ∃ r, a ≤ r ∧ r ≤ a + m ∧ g xs' q = g ys r := fun q q1 q2 => by
            obtain ⟨r, r1, r2, r3⟩ := hS'.src q q1 q2
            rw [g_sw (by omega) (by omega)] at r3
            by_cases e : r = a
            · rw [if_neg (by omega), if_pos e] at r3; exact ⟨a + m, by omega, by omega, r3⟩
            · rw [if_neg (by omega), if_neg e] at r3; exact ⟨r, r1, by omega, r3⟩
          by_cases hjm : j = a + m
          · rw [gj, g_sw (by omega) (by omega), if_pos hjm]
            obtain ⟨r, r1, r2, r3⟩ := low i j1 (by omega)
            rw [r3]
            have := hmx (r - a) (by omega)
            rw [show a + (r - a) = r by omega] at this
            exact this
          · rw [gj, g_sw (by omega) (by omega), if_neg hjm, if_neg (by omega)]
            by_cases hi1 : i < a + m
            · obtain ⟨r, r1, r2, r3⟩ := low i j1 hi1
              rw [r3]
              exact hU r j r1 (by omega) (by omega) j4
            · have gi : g xs' i = g (sw ys a (a + m)) i := hS'.out i (by omega)
              rw [gi, g_sw (by omega) (by omega)]
              by_cases hi2 : i = a + m
              · rw [if_pos hi2]; exact hU a j (Nat.le_refl _) (by omega) (by omega) j4
              · rw [if_neg hi2, if_neg (by omega)]; exact hU i j j1 j2 (by omega) j4
  · obtain ⟨m, rfl⟩ := Int.eq_ofNat_of_zero_le (show 0 ≤ iv by omega)
    refine W.ite_t (decide_eq_true (by omega)) ?_
    have em : ((m : Int) + 1).toNat = m + 1 := by omega
    rw [em] at hH
    have ed : IntKind.i64.wrap ((m : Int) - 1) = (m : Int) - 1 := by rw [wI (by omega)]
    refine W.callT [0] (ok97 (n := n) xs m h a (by omega) (by omega) (by omega) hn hH) (by decide) rfl rfl rfl rfl ?_
    rintro v σ ⟨xs', rfl, hS', rfl, hH'⟩
    refine W.ret ⟨_, _, _, ?_, Trim.of [0, 1, 2, 6, 7, 8, 9] [0] (by decide) (by intro q hq; obtain rfl := List.mem_singleton.1 hq; exact Nat.zero_lt_one) keepR, (m : Int) - 1, xs', ?_, rfl, hX.trans (hS'.wide (Nat.le_refl _) (by omega)), by omega, by omega, ?_, rfl⟩
    · omega
    · show [_, _, _, _, _, _, (9, AV.d (nI (IntKind.i64.wrap ((m : Int) - 1))))] = _; rw [ed]; rfl
    · rw [show ((m : Int) - 1 + 1).toNat = m by omega]; exact hH'
end Go.Proofs.Ytddhlmejaobcgaa.Pi

set_option maxRecDepth 100000
set_option linter.unusedVariables false
set_option linter.unusedSimpArgs false
/- Sorting in place: pivots and partitions. -/
namespace Go.Proofs.Ytddhlmejaobcgaa.Pi
open Go Go.Am Co
def od86 : Ords := []
theorem code86 : codeB Try.f86.ntmps od86 (match Try.f86.body with | some c => c | none => .skip) = true := by kernel_rfl
def od102 : Ords := [(1, [0, 1, 2, 3, 4, 5, 6, 7, 1008])]
theorem code102 : codeB Try.f102.ntmps od102 (match Try.f102.body with | some c => c | none => .skip) = true := by kernel_rfl
def od99 : Ords := []
theorem code99 : codeB Try.f99.ntmps od99 (match Try.f99.body with | some c => c | none => .skip) = true := by kernel_rfl
def od88 : Ords := [(5, [0, 1, 2, 3, 4, 5, 6, 7, 8, 9, 10, 11, 12, 1013, 14, 15]), (11, [0, 1, 2, 3, 4, 5, 6, 7, 8, 9, 10, 11, 12, 13, 14, 1015, 16, 1017]), (16, [0, 1, 2, 3, 4, 5, 6, 7, 8, 1009, 10]), (17, [0, 1, 2, 3, 4, 5, 6, 7, 8, 9, 10, 11, 12, 13, 14, 1015, 16, 1017]), (22, [0, 1, 2, 3, 4, 5, 6, 7, 8, 1009, 10]), (23, [0, 1, 2, 3, 4, 5, 6, 7, 8, 9, 10, 11, 12, 13, 14, 1015, 16, 1017])]
theorem code88 : codeB Try.f88.ntmps od88 (match Try.f88.body with | some c => c | none => .skip) = true := by kernel_rfl
abbrev vB (k : Int) : Blk := .var [.d (nI k)]
theorem keepR2 (q : Nat) (h : q < 2) : [0, 1][q]? = some q := by
  have : q = 0 ∨ q = 1 := by omega
  rcases this with rfl | rfl <;> rfl
theorem ok102 {n : Nat} (zs : List Int) (i j : Nat) (k : Int) (hl0 : zs.length = n) (hi : i < n) (hj : j < n) (hk : 0 ≤ k ∧ k ≤ 100) :
    CallOk Try.prog 102 [rV n, .d (nI i), .d (nI j), .ptr 1 0] [rB zs, vB k] (fun v s => ∃ (x y : Nat) (k' : Int), v = .tuple [.d (nI x), .d (nI y)] ∧ s = [rB zs, vB k'] ∧ (x = i ∨ x = j) ∧ (y = i ∨ y = j) ∧ k ≤ k' ∧ k' ≤ k + 1) := by
  refine CallOk.of tysOk mixed od102 Try.func102 rfl rfl code102 ?_
  refine W.need (ixI (i := j) rfl hj) ?_
  refine W.ld (eEI (i := j) rfl (by omega)) ?_
  refine W.need (ixI (i := i) rfl hi) ?_
  refine W.ld (eEI (i := i) rfl (by omega)) ?_
  refine W.pure (ok89 _ _) rfl rfl ?_
  refine W.ite (fun c => ?_) (fun c => ?_)
  · exact W.ret (RetQ.all ⟨j, i, k + 1, rfl, by show [rB zs, vB (IntKind.i64.wrap (k + 1))] = _; rw [wI (by omega)], .inr rfl, .inl rfl, by omega, by omega⟩)
  · exact W.ret (RetQ.all ⟨i, j, k, rfl, rfl, .inl rfl, .inr rfl, by omega, by omega⟩)
theorem ok99 {n : Nat} (zs : List Int) (i j l : Nat) (k : Int) (hl0 : zs.length = n) (hi : i < n) (hj : j < n) (hl : l < n) (hk : 0 ≤ k ∧ k ≤ 50) :
    CallOk Try.prog 99 [rV n, .d (nI i), .d (nI j), .d (nI l), .ptr 1 0] [rB zs, vB k] (fun v s => ∃ (x : Nat) (k' : Int), v = .d (nI x) ∧ s = [rB zs, vB k'] ∧ (x = i ∨ x = j ∨ x = l) ∧ k ≤ k' ∧ k' ≤ k + 3) := by
  refine CallOk.of tysOk mixed od99 Try.func99 rfl rfl code99 ?_
  refine W.callT [0, 1] (ok102 zs i j k hl0 hi hj (by omega)) (by decide) rfl rfl rfl rfl ?_
  rintro v σ ⟨a1, b1, k1, rfl, rfl, h1, h2, h3, h4⟩
  refine W.callT [0, 1] (ok102 zs b1 l k1 hl0 (by omega) hl (by omega)) (by decide) rfl rfl rfl rfl ?_
  rintro v σ ⟨a2, b2, k2, rfl, rfl, h5, h6, h7, h8⟩
  refine W.callT [0, 1] (ok102 zs a1 a2 k2 hl0 (by omega) (by omega) (by omega)) (by decide) rfl rfl rfl rfl ?_
  rintro v σ ⟨a3, b3, k3, rfl, rfl, h9, h10, h11, h12⟩
  exact W.ret (RetQ.all ⟨b3, k3, rfl, rfl, by omega, by omega, by omega⟩)
set_option maxHeartbeats 2000000 in
theorem ok86 {n : Nat} (zs : List Int) (a b : Nat) (hl0 : zs.length = n) (hab : a + 8 ≤ b) (hab2 : b < a + 50) (hb : b ≤ n) (hn : n ≤ 1000000) :
    CallOk Try.prog 86 [rV n, .d (nI a), .d (nI b)] [rB zs] (fun v s => ∃ (x : Nat) (h : Int), v = .tuple [.d (nI x), .d (nI h)] ∧ s = [rB zs] ∧ a ≤ x ∧ x < b ∧ (h = 0 ∨ h = 1)) := by
  refine CallOk.of tysOk mixed od86 Try.func86 rfl rfl code86 ?_
  obtain ⟨l, hl⟩ : ∃ l, b - a = l := ⟨_, rfl⟩
  have el : IntKind.i64.wrap ((b : Int) - (a : Int)) = (l : Int) := by rw [wI (by omega)]; omega
  have e4 : IntKind.i64.wrap ((IntKind.i64.wrap ((b : Int) - (a : Int))).tdiv 4) = ((l / 4 : Nat) : Int) := by
    rw [el, Int.tdiv_eq_ediv_of_nonneg (by omega), wI (by omega)]; rfl
  have m1 : IntKind.i64.wrap ((a : Int) + IntKind.i64.wrap (IntKind.i64.wrap ((IntKind.i64.wrap ((b : Int) - (a : Int))).tdiv 4) * 1)) = ((a + l / 4 : Nat) : Int) := by
    rw [e4, wI (x := ((l / 4 : Nat) : Int) * 1) (by omega), wI (by omega)]; omega
  have m2 : IntKind.i64.wrap ((a : Int) + IntKind.i64.wrap (IntKind.i64.wrap ((IntKind.i64.wrap ((b : Int) - (a : Int))).tdiv 4) * 2)) = ((a + l / 4 * 2 : Nat) : Int) := by
    rw [e4, wI (x := ((l / 4 : Nat) : Int) * 2) (by omega), wI (by omega)]; omega
  have m3 : IntKind.i64.wrap ((a : Int) + IntKind.i64.wrap (IntKind.i64.wrap ((IntKind.i64.wrap ((b : Int) - (a : Int))).tdiv 4) * 3)) = ((a + l / 4 * 3 : Nat) : Int) := by
    rw [e4, wI (x := ((l / 4 : Nat) : Int) * 3) (by omega), wI (by omega)]; omega
  have c8 : decide (IntKind.i64.wrap ((b : Int) - (a : Int)) ≥ 8) = true := decide_eq_true (by rw [el]; omega)
  have c50 : decide (IntKind.i64.wrap ((b : Int) - (a : Int)) ≥ 50) = false := decide_eq_false (by rw [el]; omega)
  refine W.need (by decide) ?_
  refine W.need (by decide) ?_
  refine W.need (by decide) ?_
  refine W.ite_t c8 ?_
  refine W.ite_f c50 ?_
  refine W.callT [0, 1] (ok99 zs (a + l / 4) (a + l / 4 * 2) (a + l / 4 * 3) 0 hl0 (by omega) (by omega) (by omega) (by omega)) (by decide) rfl rfl (by rw [← m1, ← m2, ← m3]; rfl) rfl ?_
  rintro v σ ⟨x, k', rfl, rfl, h1, h2, h3⟩
  refine W.ite (fun c => ?_) (fun c => ?_)
  · exact W.ret (RetQ.part [0] (by decide) (by intro q hq; obtain rfl := List.mem_singleton.1 hq; show 0 < 2; decide) keepR ⟨x, 1, rfl, rfl, by omega, by omega, .inr rfl⟩)
  · refine W.ite_f (beq_eq_false_iff_ne.2 (by omega)) ?_
    exact W.ret (RetQ.part [0] (by decide) (by intro q hq; obtain rfl := List.mem_singleton.1 hq; show 0 < 2; decide) keepR ⟨x, 0, rfl, rfl, by omega, by omega, .inl rfl⟩)
set_option maxHeartbeats 2000000 in
/-- Is it sorted? (short rows) -/
theorem ok88 {n : Nat} (zs : List Int) (a b : Nat) (hl0 : zs.length = n) (hab : a < b) (hab2 : b < a + 50) (hb : b ≤ n) (hn : n ≤ 1000000) :
    CallOk Try.prog 88 [rV n, .d (nI a), .d (nI b)] [rB zs] (fun v s => ∃ r : Bool, v = bI r ∧ s = [rB zs] ∧ (r = true → So a b zs)) := by
  refine CallOk.of tysOk mixed od88 Try.func88 rfl rfl code88 ?_
  have ea : IntKind.i64.wrap ((a : Int) + 1) = ((a + 1 : Nat) : Int) := by rw [wI (by omega)]; rfl
  have so1 : So a (a + 1) zs := fun p q h1 h2 h3 => by
    have : p = q := by omega
    rw [this]; exact Int.le_refl _
  refine W.loop (fun k fr σ => fr = [(0, rV n), (1, .d (nI a)), (2, .d (nI b)), (7, .d (nI (a + 1 : Nat))), (8, .d (nI 0))] ∧ σ = [rB zs]) 0
    (Start.of [0, 1, 2, 7, 8] [] (by simp)) ⟨by rw [← ea]; rfl, rfl⟩ ?_
  rintro k fr σ ⟨rfl, rfl⟩
  refine W.ite_t rfl ?_
  refine W.loop (fun k fr σ => ∃ (i : Nat), fr = [(0, rV n), (1, .d (nI a)), (2, .d (nI b)), (7, .d (nI i))] ∧ σ = [rB zs] ∧ a < i ∧ i ≤ b ∧ So a i zs ∧ k = b - i) (b - (a + 1))
    (Start.of [0, 1, 2, 7] [] (by simp)) ⟨a + 1, rfl, rfl, by omega, by omega, so1, rfl⟩ ?_
  rintro k fr σ ⟨i, rfl, rfl, h1, h2, hso, rfl⟩
  have gi : IntKind.i64.wrap ((i : Int) + 1) = ((i + 1 : Nat) : Int) := by rw [wI (by omega)]; rfl
  have el : decide (IntKind.i64.wrap ((b : Int) - (a : Int)) < 50) = true := decide_eq_true (by rw [wI (by omega)]; omega)
  by_cases hib : i < b
  · have ej : IntKind.i64.wrap ((i : Int) - 1) = ((i - 1 : Nat) : Int) := by rw [wI (by omega)]; omega
    have c1 : decide ((i : Int) < (b : Int)) = true := decide_eq_true (by omega)
    have c2 : ((i : Int) == (b : Int)) = false := beq_eq_false_iff_ne.2 (by omega)
    repeat (first | refine W.ite_t c1 ?_ | refine W.ite_t rfl ?_ | refine W.ite_f rfl ?_)
    refine W.need (ixI (i := i) rfl (by omega)) ?_
    repeat (first | refine W.ite_t c1 ?_ | refine W.ite_t rfl ?_ | refine W.ite_f rfl ?_)
    refine W.ld (eEI (i := i) rfl (by omega)) ?_
    repeat (first | refine W.ite_t c1 ?_ | refine W.ite_t rfl ?_ | refine W.ite_f rfl ?_)
    refine W.need (ixI ej (by omega)) ?_
    repeat (first | refine W.ite_t c1 ?_ | refine W.ite_t rfl ?_ | refine W.ite_f rfl ?_)
    refine W.ld (eEI ej (by omega)) ?_
    repeat (first | refine W.ite_t c1 ?_ | refine W.ite_t rfl ?_ | refine W.ite_f rfl ?_)
    refine W.pure (ok89 _ _) rfl rfl ?_
    repeat (first | refine W.ite_t c1 ?_ | refine W.ite_t rfl ?_ | refine W.ite_f rfl ?_)
    refine W.ite (fun c => ?_) (fun c => ?_)
    · have hc : ¬ g zs i < g zs (i - 1) := of_decide_eq_false (by simpa using c)
      refine W.ret ⟨_, _, _, ?_, Trim.of [0, 1, 2, 7] [0] (by decide) (by simp) keepR, i + 1, ?_, rfl, by omega, by omega, ?_, rfl⟩
      · omega
      · rw [← gi]; rfl
      · intro p q p1 p2 p3
        by_cases hq : q = i
        · subst hq
          by_cases hp : p = q
          · rw [hp]; exact Int.le_refl _
          · exact Int.le_trans (hso p (q - 1) p1 (by omega) (by omega)) (by omega)
        · exact hso p q p1 p2 (by omega)
    · refine W.ret ?_
      refine W.ite_f c2 ?_
      refine W.ite_t el ?_
      exact W.ret (W.ret (RetQ.all ⟨false, rfl, rfl, fun h => by cases h⟩))
  · obtain rfl : i = b := by omega
    have c1 : decide ((i : Int) < (i : Int)) = false := decide_eq_false (by omega)
    have c2 : ((i : Int) == (i : Int)) = true := beq_self_eq_true _
    repeat (first | refine W.ite_f c1 ?_ | refine W.ite_t rfl ?_ | refine W.ite_f rfl ?_)
    refine W.ret ?_
    refine W.ite_t c2 ?_
    exact W.ret (W.ret (RetQ.all ⟨true, rfl, rfl, fun _ => hso⟩))
end Go.Proofs.Ytddhlmejaobcgaa.Pi

set_option maxRecDepth 100000
set_option linter.unusedVariables false
set_option linter.unusedSimpArgs false
/- Sorting in place: partitions. -/
namespace Go.Proofs.Ytddhlmejaobcgaa.Pi
open Go Go.Am Co
/-- Parted as far as i from the left, and j from the right. -/
structure Pt (m : Int) (a b i j : Nat) (xs : List Int) : Prop where
  lo : a < i
  ij : i ≤ j + 1
  hi : j < b
  l : ∀ q, a < q → q < i → g xs q < g xs a + m
  r : ∀ q, j < q → q < b → g xs a + m ≤ g xs q
theorem Pt.up {m : Int} {a b i j : Nat} {xs : List Int} (h : Pt m a b i j xs) (hij : i ≤ j) (hc : g xs i < g xs a + m) : Pt m a b (i + 1) j xs :=
  ⟨by have := h.lo; omega, by omega, h.hi, fun q q1 q2 => by
    by_cases e : q = i
    · rw [e]; exact hc
    · exact h.l q q1 (by omega), h.r⟩
theorem Pt.down {m : Int} {a b i j : Nat} {xs : List Int} (h : Pt m a b i j xs) (hij : i ≤ j) (hc : g xs a + m ≤ g xs j) : Pt m a b i (j - 1) xs :=
  ⟨h.lo, by have := h.lo; omega, by have := h.hi; omega, h.l, fun q q1 q2 => by
    by_cases e : q = j
    · rw [e]; exact hc
    · exact h.r q (by have := h.lo; omega) q2⟩
theorem Pt.swap {m : Int} {a b i j : Nat} {xs : List Int} (hl : b ≤ xs.length) (h : Pt m a b i j xs) (hij : i ≤ j) (h1 : g xs a + m ≤ g xs i) (h2 : g xs j < g xs a + m) : i < j ∧ Pt m a b (i + 1) (j - 1) (sw xs i j) := by
  have hne : i ≠ j := fun e => by subst e; omega
  have hlo := h.lo
  have hhi := h.hi
  have gs := fun k => g_sw (zs := xs) (i := i) (j := j) (by omega) (by omega) k
  have ga : g (sw xs i j) a = g xs a := by rw [gs, if_neg (by omega), if_neg (by omega)]
  refine ⟨by omega, by omega, by omega, by omega, fun q q1 q2 => ?_, fun q q1 q2 => ?_⟩
  · rw [ga, gs, if_neg (by omega)]
    by_cases e : q = i
    · rw [if_pos e]; exact h2
    · rw [if_neg e]; exact h.l q q1 (by omega)
  · rw [ga, gs]
    by_cases e : q = j
    · rw [if_pos e]; exact h1
    · rw [if_neg e, if_neg (by omega)]; exact h.r q (by omega) q2
theorem Pt.start {m : Int} {a b : Nat} (h : a < b) (xs : List Int) : Pt m a b (a + 1) (b - 1) xs :=
  ⟨by omega, by omega, by omega, fun q q1 q2 => by omega, fun q q1 q2 => by omega⟩
theorem Pt.fin {a b i j : Nat} {xs : List Int} (hl : b ≤ xs.length) (h : Pt 0 a b i j xs) (hij : ¬ i ≤ j) :
    a ≤ j ∧ j < b ∧ (∀ q, a ≤ q → q < j → g (sw xs j a) q ≤ g (sw xs j a) j) ∧ (∀ q, j < q → q < b → g (sw xs j a) j ≤ g (sw xs j a) q) := by
  have hlo := h.lo
  have hhi := h.hi
  have h3 := h.ij
  have gs := fun k => g_sw (zs := xs) (i := j) (j := a) (by omega) (by omega) k
  have gj : g (sw xs j a) j = g xs a := by
    rw [gs]
    by_cases e : j = a
    · rw [if_pos e, e]
    · rw [if_neg e, if_pos rfl]
  refine ⟨by omega, by omega, fun q q1 q2 => ?_, fun q q1 q2 => ?_⟩
  · rw [gj, gs]
    by_cases e : q = a
    · rw [if_pos e]; have := h.l j (by omega) (by omega); omega
    · rw [if_neg e, if_neg (by omega)]; have := h.l q (by omega) (by omega); omega
  · rw [gj, gs, if_neg (by omega), if_neg (by omega)]; have := h.r q q1 q2; omega
def od90 : Ords := [(1, [0, 1, 2, 3, 4, 5, 6, 7, 8, 9, 10, 11, 12, 1013, 14, 1015]), (3, [0, 1, 2, 3, 4, 5, 6, 7, 8, 9, 10, 11, 1012, 13, 14]), (5, [0, 1, 2, 3, 4, 5, 6, 7, 8, 9, 10, 11, 1012, 13]), (8, [0, 1, 2, 3, 4, 5, 6, 7, 8, 9, 10, 11, 12, 1013, 14, 1015])]
theorem code90 : codeB Try.f90.ntmps od90 (match Try.f90.body with | some c => c | none => .skip) = true := by kernel_rfl
set_option maxHeartbeats 4000000 in
theorem ok90 {n : Nat} (zs : List Int) (a b p : Nat) (hl0 : zs.length = n) (hp : a ≤ p ∧ p < b) (hb : b ≤ n) (hn : n ≤ 1000000) :
    CallOk Try.prog 90 [rV n, .d (nI a), .d (nI b), .d (nI p)] [rB zs] (Mv a b zs fun v zs' => ∃ mid : Nat, v = .d (nI mid) ∧ a < mid ∧ mid ≤ b ∧ (∀ q, a < q → q < mid → g zs' q ≤ g zs' a) ∧ (∀ q, mid ≤ q → q < b → g zs' a < g zs' q) ∧ g zs' a = g zs p) := by
  refine CallOk.of tysOk mixed od90 Try.func90 rfl rfl code90 ?_
  have ea : IntKind.i64.wrap ((a : Int) + 1) = ((a + 1 : Nat) : Int) := by rw [wI (by omega)]; rfl
  have eb : IntKind.i64.wrap ((b : Int) - 1) = ((b - 1 : Nat) : Int) := by rw [wI (by omega)]; omega
  refine W.need (ixI (show (p : Int) = (p : Int) from rfl) (show p < n by omega)) ?_
  refine W.ld (eEI (show (p : Int) = (p : Int) from rfl) (show p < zs.length by omega)) ?_
  refine W.need (ixI (show (a : Int) = (a : Int) from rfl) (show a < n by omega)) ?_
  refine W.ld (eEI (show (a : Int) = (a : Int) from rfl) (show a < zs.length by omega)) ?_
  refine W.need (ixI (show (a : Int) = (a : Int) from rfl) (show a < n by omega)) ?_
  refine W.need (st0 (show (a : Int) = (a : Int) from rfl) (show a < zs.length by omega)) ?_
  refine W.need (ixI (show (p : Int) = (p : Int) from rfl) (show p < n by omega)) ?_
  refine W.need (st1 (show (a : Int) = (a : Int) from rfl) (show (p : Int) = (p : Int) from rfl) (show a < zs.length by omega) (show p < zs.length by omega)) ?_
  refine W.loop (fun k fr σ => ∃ (i j : Nat) (xs : List Int), fr = [(0, rV n), (1, .d (nI a)), (2, .d (nI b)), (9, .d (nI i)), (10, .d (nI j))] ∧ σ = [rB xs] ∧ Sg a b zs xs ∧ g xs a = g zs p ∧ Pt 1 a b i j xs ∧ k = j + 1 - i) (b - 1 + 1 - (a + 1))
    (Start.of [0, 1, 2, 9, 10] [] (by simp)) ⟨a + 1, b - 1, sw zs a p, by rw [← ea, ← eb]; rfl, swI rfl rfl (by omega) (by omega), Sg.sw ⟨by omega, by omega⟩ ⟨by omega, by omega⟩ (by omega), ?_, Pt.start (by omega) _, rfl⟩ ?_
  · rw [g_sw (by omega) (by omega)]
    by_cases e : a = p
    · rw [if_pos e, e]
    · rw [if_neg e, if_pos rfl]
  rintro k fr σ ⟨i, j, xs, rfl, rfl, hX, hg, hP, rfl⟩
  have hl := hX.len
  obtain ⟨i0, hi0⟩ : ∃ x : Nat, x = i := ⟨i, rfl⟩
  obtain ⟨j0, hj0⟩ : ∃ x : Nat, x = j := ⟨j, rfl⟩
  refine W.loop (fun k fr σ => ∃ i : Nat, fr = [(0, rV n), (1, .d (nI a)), (2, .d (nI b)), (9, .d (nI i)), (10, .d (nI j))] ∧ σ = [rB xs] ∧ Pt 1 a b i j xs ∧ i0 ≤ i ∧ k = j + 1 - i) (j + 1 - i) (Start.of [0, 1, 2, 9, 10] [] (by simp)) ⟨i, rfl, rfl, hP, by omega, rfl⟩ ?_
  rintro k fr σ ⟨i, rfl, rfl, hP, hii, rfl⟩
  have plo := hP.lo
  have pij := hP.ij
  have phi := hP.hi
  have gi : IntKind.i64.wrap ((i : Int) + 1) = ((i + 1 : Nat) : Int) := by rw [wI (by omega)]; rfl
  by_cases hij : i ≤ j
  · have c1 : decide ((i : Int) ≤ (j : Int)) = true := decide_eq_true (by omega)
    repeat (first | refine W.ite_t c1 ?_ | refine W.ite_t rfl ?_ | refine W.ite_f rfl ?_)
    refine W.need (ixI (i := a) rfl (by omega)) ?_
    repeat (first | refine W.ite_t c1 ?_ | refine W.ite_t rfl ?_ | refine W.ite_f rfl ?_)
    refine W.ld (eEI (i := a) rfl (by omega)) ?_
    repeat (first | refine W.ite_t c1 ?_ | refine W.ite_t rfl ?_ | refine W.ite_f rfl ?_)
    refine W.need (ixI (i := i) rfl (by omega)) ?_
    repeat (first | refine W.ite_t c1 ?_ | refine W.ite_t rfl ?_ | refine W.ite_f rfl ?_)
    refine W.ld (eEI (i := i) rfl (by omega)) ?_
    repeat (first | refine W.ite_t c1 ?_ | refine W.ite_t rfl ?_ | refine W.ite_f rfl ?_)
    refine W.pure (ok89 _ _) rfl rfl ?_
    repeat (first | refine W.ite_t c1 ?_ | refine W.ite_t rfl ?_ | refine W.ite_f rfl ?_)
    refine W.ite (fun c => ?_) (fun c => ?_)
    · have hc : g xs i < g xs a + 1 := by have h := of_decide_eq_false (p := g xs a < g xs i) (by simpa using c); omega
      refine W.ret ⟨_, _, _, ?_, Trim.of [0, 1, 2, 9, 10] [0] (by decide) (by simp) keepR, i + 1, ?_, rfl, hP.up hij hc, by omega, rfl⟩
      · omega
      · rw [← gi]; rfl
    · have hci : g xs a + 1 ≤ g xs i := by have h := of_decide_eq_true (p := g xs a < g xs i) (by simpa using c); omega
      refine W.ret ?_
      refine W.loop (fun k fr σ => ∃ j : Nat, fr = [(0, rV n), (1, .d (nI a)), (2, .d (nI b)), (9, .d (nI i)), (10, .d (nI j))] ∧ σ = [rB xs] ∧ Pt 1 a b i j xs ∧ j ≤ j0 ∧ k = j + 1 - i) (j + 1 - i) (Start.of [0, 1, 2, 9, 10] [] (by simp)) ⟨j, rfl, rfl, hP, by omega, rfl⟩ ?_
      clear hP pij phi hij c1 c
      rintro k fr σ ⟨j, rfl, rfl, hP, hjj, rfl⟩
      have pij := hP.ij
      have phi := hP.hi
      by_cases hij : i ≤ j
      · have c1 : decide ((i : Int) ≤ (j : Int)) = true := decide_eq_true (by omega)
        have gj : IntKind.i64.wrap ((j : Int) - 1) = ((j - 1 : Nat) : Int) := by rw [wI (by omega)]; omega
        repeat (first | refine W.ite_t c1 ?_ | refine W.ite_t rfl ?_ | refine W.ite_f rfl ?_)
        refine W.need (ixI (i := a) rfl (by omega)) ?_
        repeat (first | refine W.ite_t c1 ?_ | refine W.ite_t rfl ?_ | refine W.ite_f rfl ?_)
        refine W.ld (eEI (i := a) rfl (by omega)) ?_
        repeat (first | refine W.ite_t c1 ?_ | refine W.ite_t rfl ?_ | refine W.ite_f rfl ?_)
        refine W.need (ixI (i := j) rfl (by omega)) ?_
        repeat (first | refine W.ite_t c1 ?_ | refine W.ite_t rfl ?_ | refine W.ite_f rfl ?_)
        refine W.ld (eEI (i := j) rfl (by omega)) ?_
        repeat (first | refine W.ite_t c1 ?_ | refine W.ite_t rfl ?_ | refine W.ite_f rfl ?_)
        refine W.pure (ok89 _ _) rfl rfl ?_
        repeat (first | refine W.ite_t c1 ?_ | refine W.ite_t rfl ?_ | refine W.ite_f rfl ?_)
        refine W.ite (fun c => ?_) (fun c => ?_)
        · have hc : g xs a + 1 ≤ g xs j := by have h := of_decide_eq_true (p := g xs a < g xs j) (by simpa using c); omega
          refine W.ret ⟨_, _, _, ?_, Trim.of [0, 1, 2, 9, 10] [0] (by decide) (by simp) keepR, j - 1, ?_, rfl, hP.down hij hc, by omega, rfl⟩
          · omega
          · rw [← gj]; rfl
        · have hcj : g xs j < g xs a + 1 := by have h := of_decide_eq_false (p := g xs a < g xs j) (by simpa using c); omega
          refine W.ret ?_
          refine W.ite_f (decide_eq_false (by omega)) ?_
          obtain ⟨hlt, hP'⟩ := hP.swap (by omega) hij hci hcj
          refine W.need (ixI (show (j : Int) = (j : Int) from rfl) (show j < n by omega)) ?_
          refine W.ld (eEI (show (j : Int) = (j : Int) from rfl) (show j < xs.length by omega)) ?_
          refine W.need (ixI (show (i : Int) = (i : Int) from rfl) (show i < n by omega)) ?_
          refine W.ld (eEI (show (i : Int) = (i : Int) from rfl) (show i < xs.length by omega)) ?_
          refine W.need (ixI (show (i : Int) = (i : Int) from rfl) (show i < n by omega)) ?_
          refine W.need (st0 (show (i : Int) = (i : Int) from rfl) (show i < xs.length by omega)) ?_
          refine W.need (ixI (show (j : Int) = (j : Int) from rfl) (show j < n by omega)) ?_
          refine W.need (st1 (show (i : Int) = (i : Int) from rfl) (show (j : Int) = (j : Int) from rfl) (show i < xs.length by omega) (show j < xs.length by omega)) ?_
          refine W.ret ⟨_, _, _, ?_, Trim.of [0, 1, 2, 9, 10] [0] (by decide) (by simp) keepR, i + 1, j - 1, sw xs i j, ?_, swI rfl rfl (by omega) (by omega), hX.trans (Sg.sw ⟨by omega, by omega⟩ ⟨by omega, by omega⟩ (by omega)), ?_, hP', rfl⟩
          · omega
          · rw [← gi, ← gj]; rfl
          · rw [g_sw (by omega) (by omega), if_neg (by omega), if_neg (by omega)]; exact hg
      · have c1 : decide ((i : Int) ≤ (j : Int)) = false := decide_eq_false (by omega)
        repeat (first | refine W.ite_f c1 ?_ | refine W.ite_t rfl ?_ | refine W.ite_f rfl ?_)
        refine W.ret ?_
        refine W.ite_t (decide_eq_true (by omega)) ?_
        refine W.ret ?_
        exact W.ret (RetQ.all ⟨xs, rfl, hX, i, rfl, by omega, by omega, fun q q1 q2 => by have := hP.l q q1 q2; omega, fun q q1 q2 => by have := hP.r q (by omega) q2; omega, hg⟩)
  · have c1 : decide ((i : Int) ≤ (j : Int)) = false := decide_eq_false (by omega)
    repeat (first | refine W.ite_f c1 ?_ | refine W.ite_t rfl ?_ | refine W.ite_f rfl ?_)
    refine W.ret ?_
    refine W.loop (fun k fr σ => fr = [(0, rV n), (1, .d (nI a)), (2, .d (nI b)), (9, .d (nI i)), (10, .d (nI j))] ∧ σ = [rB xs]) 0 (Start.of [0, 1, 2, 9, 10] [] (by simp)) ⟨rfl, rfl⟩ ?_
    rintro k fr σ ⟨rfl, rfl⟩
    repeat (first | refine W.ite_f c1 ?_ | refine W.ite_t rfl ?_ | refine W.ite_f rfl ?_)
    refine W.ret ?_
    refine W.ite_t (decide_eq_true (by omega)) ?_
    refine W.ret ?_
    exact W.ret (RetQ.all ⟨xs, rfl, hX, i, rfl, by omega, by omega, fun q q1 q2 => by have := hP.l q q1 q2; omega, fun q q1 q2 => by have := hP.r q (by omega) q2; omega, hg⟩)
def od91 : Ords := [(1, [0, 1, 2, 3, 4, 5, 6, 7, 8, 9, 10, 11, 12, 1013, 14, 1015]), (3, [0, 1, 2, 3, 4, 5, 6, 7, 8, 9, 10, 11, 1012, 13]), (5, [0, 1, 2, 3, 4, 5, 6, 7, 8, 9, 10, 11, 1012, 13, 14]), (8, [0, 1, 2, 3, 4, 5, 6, 7, 8, 9, 10, 11, 12, 1013, 14, 1015]), (10, [0, 1, 2, 3, 4, 5, 6, 7, 8, 9, 10, 11, 12, 1013, 14, 1015]), (13, [0, 1, 2, 3, 4, 5, 6, 7, 8, 9, 10, 11, 1012, 13]), (15, [0, 1, 2, 3, 4, 5, 6, 7, 8, 9, 10, 11, 1012, 13, 14]), (18, [0, 1, 2, 3, 4, 5, 6, 7, 8, 9, 10, 11, 12, 1013, 14, 1015]), (21, [0, 1, 2, 3, 4, 5, 6, 7, 8, 9, 10, 11, 12, 1013, 14, 1015])]
theorem code91 : codeB Try.f91.ntmps od91 (match Try.f91.body with | some c => c | none => .skip) = true := by kernel_rfl
set_option maxHeartbeats 8000000 in
theorem ok91 {n : Nat} (zs : List Int) (a b p : Nat) (hl0 : zs.length = n) (hp : a ≤ p ∧ p < b) (hb : b ≤ n) (hn : n ≤ 1000000) :
    CallOk Try.prog 91 [rV n, .d (nI a), .d (nI b), .d (nI p)] [rB zs] (Mv a b zs fun v zs' => ∃ (mid : Nat) (r : Bool), v = .tuple [.d (nI mid), .d (.lit (.bool r))] ∧ a ≤ mid ∧ mid < b ∧ (∀ q, a ≤ q → q < mid → g zs' q ≤ g zs' mid) ∧ (∀ q, mid < q → q < b → g zs' mid ≤ g zs' q)) := by
  refine CallOk.of tysOk mixed od91 Try.func91 rfl rfl code91 ?_
  have ea : IntKind.i64.wrap ((a : Int) + 1) = ((a + 1 : Nat) : Int) := by rw [wI (by omega)]; rfl
  have eb : IntKind.i64.wrap ((b : Int) - 1) = ((b - 1 : Nat) : Int) := by rw [wI (by omega)]; omega
  refine W.need (ixI (show (p : Int) = (p : Int) from rfl) (show p < n by omega)) ?_
  refine W.ld (eEI (show (p : Int) = (p : Int) from rfl) (show p < zs.length by omega)) ?_
  refine W.need (ixI (show (a : Int) = (a : Int) from rfl) (show a < n by omega)) ?_
  refine W.ld (eEI (show (a : Int) = (a : Int) from rfl) (show a < zs.length by omega)) ?_
  refine W.need (ixI (show (a : Int) = (a : Int) from rfl) (show a < n by omega)) ?_
  refine W.need (st0 (show (a : Int) = (a : Int) from rfl) (show a < zs.length by omega)) ?_
  refine W.need (ixI (show (p : Int) = (p : Int) from rfl) (show p < n by omega)) ?_
  refine W.need (st1 (show (a : Int) = (a : Int) from rfl) (show (p : Int) = (p : Int) from rfl) (show a < zs.length by omega) (show p < zs.length by omega)) ?_
  have hS0 : [Blk.row 1 1 _] = [rB (sw zs a p)] := swI (zs := zs) (X := (a : Int)) (Y := (p : Int)) (i := a) (j := p) rfl rfl (by omega) (by omega)
  have hX : Sg a b zs (sw zs a p) := Sg.sw ⟨by omega, by omega⟩ ⟨by omega, by omega⟩ (by omega)
  have hP : Pt 0 a b (a + 1) (b - 1) (sw zs a p) := Pt.start (by omega) _
  have hl := hX.len
  generalize sw zs a p = xs at hX hP hl hS0
  obtain ⟨i, hi⟩ : ∃ i, a + 1 = i := ⟨_, rfl⟩
  obtain ⟨j, hj⟩ : ∃ j, b - 1 = j := ⟨_, rfl⟩
  rw [hi] at ea hP
  rw [hj] at eb hP
  obtain ⟨i0, hi0⟩ : ∃ x : Nat, x = i := ⟨i, rfl⟩
  obtain ⟨j0, hj0⟩ : ∃ x : Nat, x = j := ⟨j, rfl⟩
  refine W.loop (fun k fr σ => ∃ i : Nat, fr = [(0, rV n), (1, .d (nI a)), (2, .d (nI b)), (10, .d (nI i)), (11, .d (nI j))] ∧ σ = [rB xs] ∧ Pt 0 a b i j xs ∧ i0 ≤ i ∧ k = j + 1 - i) (j + 1 - i) (Start.of [0, 1, 2, 10, 11] [] (by simp)) ⟨i, by rw [← ea, ← eb]; rfl, hS0, hP, by omega, rfl⟩ ?_
  rintro k fr σ ⟨i, rfl, rfl, hP, hii, rfl⟩
  have plo := hP.lo
  have pij := hP.ij
  have phi := hP.hi
  have gi : IntKind.i64.wrap ((i : Int) + 1) = ((i + 1 : Nat) : Int) := by rw [wI (by omega)]; rfl
  by_cases hij : i ≤ j
  · have c1 : decide ((i : Int) ≤ (j : Int)) = true := decide_eq_true (by omega)
    repeat (first | refine W.ite_t c1 ?_ | refine W.ite_t rfl ?_ | refine W.ite_f rfl ?_)
    refine W.need (ixI (i := i) rfl (by omega)) ?_
    repeat (first | refine W.ite_t c1 ?_ | refine W.ite_t rfl ?_ | refine W.ite_f rfl ?_)
    refine W.ld (eEI (i := i) rfl (by omega)) ?_
    repeat (first | refine W.ite_t c1 ?_ | refine W.ite_t rfl ?_ | refine W.ite_f rfl ?_)
    refine W.need (ixI (i := a) rfl (by omega)) ?_
    repeat (first | refine W.ite_t c1 ?_ | refine W.ite_t rfl ?_ | refine W.ite_f rfl ?_)
    refine W.ld (eEI (i := a) rfl (by omega)) ?_
    repeat (first | refine W.ite_t c1 ?_ | refine W.ite_t rfl ?_ | refine W.ite_f rfl ?_)
    refine W.pure (ok89 _ _) rfl rfl ?_
    repeat (first | refine W.ite_t c1 ?_ | refine W.ite_t rfl ?_ | refine W.ite_f rfl ?_)
    refine W.ite (fun c => ?_) (fun c => ?_)
    · have hc : g xs i < g xs a + 0 := by have h := of_decide_eq_true (p := g xs i < g xs a) (by simpa using c); omega
      refine W.ret ⟨_, _, _, ?_, Trim.of [0, 1, 2, 10, 11] [0] (by decide) (by simp) keepR, i + 1, ?_, rfl, hP.up hij hc, by omega, rfl⟩
      · omega
      · rw [← gi]; rfl
    · have hci : g xs a + 0 ≤ g xs i := by have h := of_decide_eq_false (p := g xs i < g xs a) (by simpa using c); omega
      refine W.ret ?_
      refine W.loop (fun k fr σ => ∃ j : Nat, fr = [(0, rV n), (1, .d (nI a)), (2, .d (nI b)), (10, .d (nI i)), (11, .d (nI j))] ∧ σ = [rB xs] ∧ Pt 0 a b i j xs ∧ j ≤ j0 ∧ k = j + 1 - i) (j + 1 - i) (Start.of [0, 1, 2, 10, 11] [] (by simp)) ⟨j, rfl, rfl, hP, by omega, rfl⟩ ?_
      clear hP pij phi hij c1 c
      rintro k fr σ ⟨j, rfl, rfl, hP, hjj, rfl⟩
      have pij := hP.ij
      have phi := hP.hi
      by_cases hij : i ≤ j
      · have c1 : decide ((i : Int) ≤ (j : Int)) = true := decide_eq_true (by omega)
        have gj : IntKind.i64.wrap ((j : Int) - 1) = ((j - 1 : Nat) : Int) := by rw [wI (by omega)]; omega
        repeat (first | refine W.ite_t c1 ?_ | refine W.ite_t rfl ?_ | refine W.ite_f rfl ?_)
        refine W.need (ixI (i := j) rfl (by omega)) ?_
        repeat (first | refine W.ite_t c1 ?_ | refine W.ite_t rfl ?_ | refine W.ite_f rfl ?_)
        refine W.ld (eEI (i := j) rfl (by omega)) ?_
        repeat (first | refine W.ite_t c1 ?_ | refine W.ite_t rfl ?_ | refine W.ite_f rfl ?_)
        refine W.need (ixI (i := a) rfl (by omega)) ?_
        repeat (first | refine W.ite_t c1 ?_ | refine W.ite_t rfl ?_ | refine W.ite_f rfl ?_)
        refine W.ld (eEI (i := a) rfl (by omega)) ?_
        repeat (first | refine W.ite_t c1 ?_ | refine W.ite_t rfl ?_ | refine W.ite_f rfl ?_)
        refine W.pure (ok89 _ _) rfl rfl ?_
        repeat (first | refine W.ite_t c1 ?_ | refine W.ite_t rfl ?_ | refine W.ite_f rfl ?_)
        refine W.ite (fun c => ?_) (fun c => ?_)
        · have hc : g xs a + 0 ≤ g xs j := by have h := of_decide_eq_false (p := g xs j < g xs a) (by simpa using c); omega
          refine W.ret ⟨_, _, _, ?_, Trim.of [0, 1, 2, 10, 11] [0] (by decide) (by simp) keepR, j - 1, ?_, rfl, hP.down hij hc, by omega, rfl⟩
          · omega
          · rw [← gj]; rfl
        · have hcj : g xs j < g xs a + 0 := by have h := of_decide_eq_true (p := g xs j < g xs a) (by simpa using c); omega
          refine W.ret ?_
          refine W.ite_f (decide_eq_false (by omega)) ?_
          obtain ⟨hlt, hP'⟩ := hP.swap (by omega) hij hci hcj
          refine W.need (ixI (show (j : Int) = (j : Int) from rfl) (show j < n by omega)) ?_
          refine W.ld (eEI (show (j : Int) = (j : Int) from rfl) (show j < xs.length by omega)) ?_
          refine W.need (ixI (show (i : Int) = (i : Int) from rfl) (show i < n by omega)) ?_
          refine W.ld (eEI (show (i : Int) = (i : Int) from rfl) (show i < xs.length by omega)) ?_
          refine W.need (ixI (show (i : Int) = (i : Int) from rfl) (show i < n by omega)) ?_
          refine W.need (st0 (show (i : Int) = (i : Int) from rfl) (show i < xs.length by omega)) ?_
          refine W.need (ixI (show (j : Int) = (j : Int) from rfl) (show j < n by omega)) ?_
          refine W.need (st1 (show (i : Int) = (i : Int) from rfl) (show (j : Int) = (j : Int) from rfl) (show i < xs.length by omega) (show j < xs.length by omega)) ?_
          have hX' := hX.trans (y := xs) (z := sw xs i j) (Sg.sw ⟨by omega, by omega⟩ ⟨by omega, by omega⟩ (by omega))
          refine W.loop (fun k fr σ => ∃ (i j : Nat) (xs : List Int), fr = [(0, rV n), (1, .d (nI a)), (2, .d (nI b)), (10, .d (nI i)), (11, .d (nI j))] ∧ σ = [rB xs] ∧ Sg a b zs xs ∧ Pt 0 a b i j xs ∧ k = j + 1 - i) (j - 1 + 1 - (i + 1))
            (Start.of [0, 1, 2, 10, 11] [] (by simp)) ⟨i + 1, j - 1, sw xs i j, by rw [← gi, ← gj]; rfl, swI rfl rfl (by omega) (by omega), hX', hP', rfl⟩ ?_
          clear hP hP' hX hX' hl plo pij phi hij gi gj hci hcj hlt c c1 hii hjj hi0 hj0
          rintro k fr σ ⟨i, j, xs, rfl, rfl, hX, hP, rfl⟩
          have hl := hX.len
          obtain ⟨i0, hi0⟩ : ∃ x : Nat, x = i := ⟨i, rfl⟩
          obtain ⟨j0, hj0⟩ : ∃ x : Nat, x = j := ⟨j, rfl⟩
          refine W.loop (fun k fr σ => ∃ i : Nat, fr = [(0, rV n), (1, .d (nI a)), (2, .d (nI b)), (10, .d (nI i)), (11, .d (nI j))] ∧ σ = [rB xs] ∧ Pt 0 a b i j xs ∧ i0 ≤ i ∧ k = j + 1 - i) (j + 1 - i) (Start.of [0, 1, 2, 10, 11] [] (by simp)) ⟨i, rfl, rfl, hP, by omega, rfl⟩ ?_
          rintro k fr σ ⟨i, rfl, rfl, hP, hii, rfl⟩
          have plo := hP.lo
          have pij := hP.ij
          have phi := hP.hi
          have gi : IntKind.i64.wrap ((i : Int) + 1) = ((i + 1 : Nat) : Int) := by rw [wI (by omega)]; rfl
          by_cases hij : i ≤ j
          · have c1 : decide ((i : Int) ≤ (j : Int)) = true := decide_eq_true (by omega)
            repeat (first | refine W.ite_t c1 ?_ | refine W.ite_t rfl ?_ | refine W.ite_f rfl ?_)
            refine W.need (ixI (i := i) rfl (by omega)) ?_
            repeat (first | refine W.ite_t c1 ?_ | refine W.ite_t rfl ?_ | refine W.ite_f rfl ?_)
            refine W.ld (eEI (i := i) rfl (by omega)) ?_
            repeat (first | refine W.ite_t c1 ?_ | refine W.ite_t rfl ?_ | refine W.ite_f rfl ?_)
            refine W.need (ixI (i := a) rfl (by omega)) ?_
            repeat (first | refine W.ite_t c1 ?_ | refine W.ite_t rfl ?_ | refine W.ite_f rfl ?_)
            refine W.ld (eEI (i := a) rfl (by omega)) ?_
            repeat (first | refine W.ite_t c1 ?_ | refine W.ite_t rfl ?_ | refine W.ite_f rfl ?_)
            refine W.pure (ok89 _ _) rfl rfl ?_
            repeat (first | refine W.ite_t c1 ?_ | refine W.ite_t rfl ?_ | refine W.ite_f rfl ?_)
            refine W.ite (fun c => ?_) (fun c => ?_)
            · have hc : g xs i < g xs a + 0 := by have h := of_decide_eq_true (p := g xs i < g xs a) (by simpa using c); omega
              refine W.ret ⟨_, _, _, ?_, Trim.of [0, 1, 2, 10, 11] [0] (by decide) (by simp) keepR, i + 1, ?_, rfl, hP.up hij hc, by omega, rfl⟩
              · omega
              · rw [← gi]; rfl
            · have hci : g xs a + 0 ≤ g xs i := by have h := of_decide_eq_false (p := g xs i < g xs a) (by simpa using c); omega
              refine W.ret ?_
              refine W.loop (fun k fr σ => ∃ j : Nat, fr = [(0, rV n), (1, .d (nI a)), (2, .d (nI b)), (10, .d (nI i)), (11, .d (nI j))] ∧ σ = [rB xs] ∧ Pt 0 a b i j xs ∧ j ≤ j0 ∧ k = j + 1 - i) (j + 1 - i) (Start.of [0, 1, 2, 10, 11] [] (by simp)) ⟨j, rfl, rfl, hP, by omega, rfl⟩ ?_
              clear hP pij phi hij c1 c
              rintro k fr σ ⟨j, rfl, rfl, hP, hjj, rfl⟩
              have pij := hP.ij
              have phi := hP.hi
              by_cases hij : i ≤ j
              · have c1 : decide ((i : Int) ≤ (j : Int)) = true := decide_eq_true (by omega)
                have gj : IntKind.i64.wrap ((j : Int) - 1) = ((j - 1 : Nat) : Int) := by rw [wI (by omega)]; omega
                repeat (first | refine W.ite_t c1 ?_ | refine W.ite_t rfl ?_ | refine W.ite_f rfl ?_)
                refine W.need (ixI (i := j) rfl (by omega)) ?_
                repeat (first | refine W.ite_t c1 ?_ | refine W.ite_t rfl ?_ | refine W.ite_f rfl ?_)
                refine W.ld (eEI (i := j) rfl (by omega)) ?_
                repeat (first | refine W.ite_t c1 ?_ | refine W.ite_t rfl ?_ | refine W.ite_f rfl ?_)
                refine W.need (ixI (i := a) rfl (by omega)) ?_
                repeat (first | refine W.ite_t c1 ?_ | refine W.ite_t rfl ?_ | refine W.ite_f rfl ?_)
                refine W.ld (eEI (i := a) rfl (by omega)) ?_
                repeat (first | refine W.ite_t c1 ?_ | refine W.ite_t rfl ?_ | refine W.ite_f rfl ?_)
                refine W.pure (ok89 _ _) rfl rfl ?_
                repeat (first | refine W.ite_t c1 ?_ | refine W.ite_t rfl ?_ | refine W.ite_f rfl ?_)
                refine W.ite (fun c => ?_) (fun c => ?_)
                · have hc : g xs a + 0 ≤ g xs j := by have h := of_decide_eq_false (p := g xs j < g xs a) (by simpa using c); omega
                  refine W.ret ⟨_, _, _, ?_, Trim.of [0, 1, 2, 10, 11] [0] (by decide) (by simp) keepR, j - 1, ?_, rfl, hP.down hij hc, by omega, rfl⟩
                  · omega
                  · rw [← gj]; rfl
                · have hcj : g xs j < g xs a + 0 := by have h := of_decide_eq_true (p := g xs j < g xs a) (by simpa using c); omega
                  refine W.ret ?_
                  refine W.ite_f (decide_eq_false (by omega)) ?_
                  obtain ⟨hlt, hP'⟩ := hP.swap (by omega) hij hci hcj
                  refine W.need (ixI (show (j : Int) = (j : Int) from rfl) (show j < n by omega)) ?_
                  refine W.ld (eEI (show (j : Int) = (j : Int) from rfl) (show j < xs.length by omega)) ?_
                  refine W.need (ixI (show (i : Int) = (i : Int) from rfl) (show i < n by omega)) ?_
                  refine W.ld (eEI (show (i : Int) = (i : Int) from rfl) (show i < xs.length by omega)) ?_
                  refine W.need (ixI (show (i : Int) = (i : Int) from rfl) (show i < n by omega)) ?_
                  refine W.need (st0 (show (i : Int) = (i : Int) from rfl) (show i < xs.length by omega)) ?_
                  refine W.need (ixI (show (j : Int) = (j : Int) from rfl) (show j < n by omega)) ?_
                  refine W.need (st1 (show (i : Int) = (i : Int) from rfl) (show (j : Int) = (j : Int) from rfl) (show i < xs.length by omega) (show j < xs.length by omega)) ?_
                  refine W.ret ⟨_, _, _, ?_, Trim.of [0, 1, 2, 10, 11] [0] (by decide) (by simp) keepR, i + 1, j - 1, sw xs i j, ?_, swI rfl rfl (by omega) (by omega), hX.trans (Sg.sw ⟨by omega, by omega⟩ ⟨by omega, by omega⟩ (by omega)), hP', rfl⟩
                  · omega
                  · rw [← gi, ← gj]; rfl
              · have c1 : decide ((i : Int) ≤ (j : Int)) = false := decide_eq_false (by omega)
                repeat (first | refine W.ite_f c1 ?_ | refine W.ite_t rfl ?_ | refine W.ite_f rfl ?_)
                refine W.ret ?_
                refine W.ite_t (decide_eq_true (by omega)) ?_
                refine W.ret ?_
                refine W.need (ixI (show (a : Int) = (a : Int) from rfl) (show a < n by omega)) ?_
                refine W.ld (eEI (show (a : Int) = (a : Int) from rfl) (show a < xs.length by omega)) ?_
                refine W.need (ixI (show (j : Int) = (j : Int) from rfl) (show j < n by omega)) ?_
                refine W.ld (eEI (show (j : Int) = (j : Int) from rfl) (show j < xs.length by omega)) ?_
                refine W.need (ixI (show (j : Int) = (j : Int) from rfl) (show j < n by omega)) ?_
                refine W.need (st0 (show (j : Int) = (j : Int) from rfl) (show j < xs.length by omega)) ?_
                refine W.need (ixI (show (a : Int) = (a : Int) from rfl) (show a < n by omega)) ?_
                refine W.need (st1 (show (j : Int) = (j : Int) from rfl) (show (a : Int) = (a : Int) from rfl) (show j < xs.length by omega) (show a < xs.length by omega)) ?_
                obtain ⟨f1, f2, f3, f4⟩ := hP.fin (by omega) hij
                exact W.ret (RetQ.all ⟨sw xs j a, swI rfl rfl (by omega) (by omega), hX.trans (Sg.sw ⟨by omega, by omega⟩ ⟨by omega, by omega⟩ (by omega)), j, false, rfl, f1, f2, f3, f4⟩)
          · have c1 : decide ((i : Int) ≤ (j : Int)) = false := decide_eq_false (by omega)
            repeat (first | refine W.ite_f c1 ?_ | refine W.ite_t rfl ?_ | refine W.ite_f rfl ?_)
            refine W.ret ?_
            refine W.loop (fun k fr σ => fr = [(0, rV n), (1, .d (nI a)), (2, .d (nI b)), (10, .d (nI i)), (11, .d (nI j))] ∧ σ = [rB xs]) 0 (Start.of [0, 1, 2, 10, 11] [] (by simp)) ⟨rfl, rfl⟩ ?_
            rintro k fr σ ⟨rfl, rfl⟩
            repeat (first | refine W.ite_f c1 ?_ | refine W.ite_t rfl ?_ | refine W.ite_f rfl ?_)
            refine W.ret ?_
            refine W.ite_t (decide_eq_true (by omega)) ?_
            refine W.ret ?_
            refine W.need (ixI (show (a : Int) = (a : Int) from rfl) (show a < n by omega)) ?_
            refine W.ld (eEI (show (a : Int) = (a : Int) from rfl) (show a < xs.length by omega)) ?_
            refine W.need (ixI (show (j : Int) = (j : Int) from rfl) (show j < n by omega)) ?_
            refine W.ld (eEI (show (j : Int) = (j : Int) from rfl) (show j < xs.length by omega)) ?_
            refine W.need (ixI (show (j : Int) = (j : Int) from rfl) (show j < n by omega)) ?_
            refine W.need (st0 (show (j : Int) = (j : Int) from rfl) (show j < xs.length by omega)) ?_
            refine W.need (ixI (show (a : Int) = (a : Int) from rfl) (show a < n by omega)) ?_
            refine W.need (st1 (show (j : Int) = (j : Int) from rfl) (show (a : Int) = (a : Int) from rfl) (show j < xs.length by omega) (show a < xs.length by omega)) ?_
            obtain ⟨f1, f2, f3, f4⟩ := hP.fin (by omega) hij
            exact W.ret (RetQ.all ⟨sw xs j a, swI rfl rfl (by omega) (by omega), hX.trans (Sg.sw ⟨by omega, by omega⟩ ⟨by omega, by omega⟩ (by omega)), j, false, rfl, f1, f2, f3, f4⟩)
      · have c1 : decide ((i : Int) ≤ (j : Int)) = false := decide_eq_false (by omega)
        repeat (first | refine W.ite_f c1 ?_ | refine W.ite_t rfl ?_ | refine W.ite_f rfl ?_)
        refine W.ret ?_
        refine W.ite_t (decide_eq_true (by omega)) ?_
        refine W.need (ixI (show (a : Int) = (a : Int) from rfl) (show a < n by omega)) ?_
        refine W.ld (eEI (show (a : Int) = (a : Int) from rfl) (show a < xs.length by omega)) ?_
        refine W.need (ixI (show (j : Int) = (j : Int) from rfl) (show j < n by omega)) ?_
        refine W.ld (eEI (show (j : Int) = (j : Int) from rfl) (show j < xs.length by omega)) ?_
        refine W.need (ixI (show (j : Int) = (j : Int) from rfl) (show j < n by omega)) ?_
        refine W.need (st0 (show (j : Int) = (j : Int) from rfl) (show j < xs.length by omega)) ?_
        refine W.need (ixI (show (a : Int) = (a : Int) from rfl) (show a < n by omega)) ?_
        refine W.need (st1 (show (j : Int) = (j : Int) from rfl) (show (a : Int) = (a : Int) from rfl) (show j < xs.length by omega) (show a < xs.length by omega)) ?_
        obtain ⟨f1, f2, f3, f4⟩ := hP.fin (by omega) hij
        exact W.ret (RetQ.all ⟨sw xs j a, swI rfl rfl (by omega) (by omega), hX.trans (Sg.sw ⟨by omega, by omega⟩ ⟨by omega, by omega⟩ (by omega)), j, true, rfl, f1, f2, f3, f4⟩)
  · have c1 : decide ((i : Int) ≤ (j : Int)) = false := decide_eq_false (by omega)
    repeat (first | refine W.ite_f c1 ?_ | refine W.ite_t rfl ?_ | refine W.ite_f rfl ?_)
    refine W.ret ?_
    refine W.loop (fun k fr σ => fr = [(0, rV n), (1, .d (nI a)), (2, .d (nI b)), (10, .d (nI i)), (11, .d (nI j))] ∧ σ = [rB xs]) 0 (Start.of [0, 1, 2, 10, 11] [] (by simp)) ⟨rfl, rfl⟩ ?_
    rintro k fr σ ⟨rfl, rfl⟩
    repeat (first | refine W.ite_f c1 ?_ | refine W.ite_t rfl ?_ | refine W.ite_f rfl ?_)
    refine W.ret ?_
    refine W.ite_t (decide_eq_true (by omega)) ?_
    refine W.need (ixI (show (a : Int) = (a : Int) from rfl) (show a < n by omega)) ?_
    refine W.ld (eEI (show (a : Int) = (a : Int) from rfl) (show a < xs.length by omega)) ?_
    refine W.need (ixI (show (j : Int) = (j : Int) from rfl) (show j < n by omega)) ?_
    refine W.ld (eEI (show (j : Int) = (j : Int) from rfl) (show j < xs.length by omega)) ?_
    refine W.need (ixI (show (j : Int) = (j : Int) from rfl) (show j < n by omega)) ?_
    refine W.need (st0 (show (j : Int) = (j : Int) from rfl) (show j < xs.length by omega)) ?_
    refine W.need (ixI (show (a : Int) = (a : Int) from rfl) (show a < n by omega)) ?_
    refine W.need (st1 (show (j : Int) = (j : Int) from rfl) (show (a : Int) = (a : Int) from rfl) (show j < xs.length by omega) (show a < xs.length by omega)) ?_
    obtain ⟨f1, f2, f3, f4⟩ := hP.fin (by omega) hij
    exact W.ret (RetQ.all ⟨sw xs j a, swI rfl rfl (by omega) (by omega), hX.trans (Sg.sw ⟨by omega, by omega⟩ ⟨by omega, by omega⟩ (by omega)), j, true, rfl, f1, f2, f3, f4⟩)
end Go.Proofs.Ytddhlmejaobcgaa.Pi

set_option maxRecDepth 100000
set_option linter.unusedVariables false
set_option linter.unusedSimpArgs false
/- Sorting in place: patterns broken, all of it. -/
namespace Go.Proofs.Ytddhlmejaobcgaa.Pi
open Go Go.Am Co
def od81 : Ords := []
theorem code81 : codeB Try.f81.ntmps od81 (match Try.f81.body with | some c => c | none => .skip) = true := by kernel_rfl
def od62 : Ords := []
theorem code62 : codeB Try.f62.ntmps od62 (match Try.f62.body with | some c => c | none => .skip) = true := by kernel_rfl
def od93 : Ords := []
theorem code93 : codeB Try.f93.ntmps od93 (match Try.f93.body with | some c => c | none => .skip) = true := by kernel_rfl
def od94 : Ords := [(1, [0, 1, 2, 3, 4, 5, 6, 7, 8, 1009]), (2, [0, 1, 2, 3, 4, 5, 6, 7, 8, 1009]), (3, [0, 1, 2, 3, 4, 5, 6, 7, 8, 1009])]
theorem code94 : codeB Try.f94.ntmps od94 (match Try.f94.body with | some c => c | none => .skip) = true := by kernel_rfl
def od85 : Ords := [(10, [0, 1, 2, 3, 4, 5, 6, 7, 8, 9, 10, 11, 12, 13, 14, 15, 16, 1017, 18, 1019])]
theorem code85 : codeB Try.f85.ntmps od85 (match Try.f85.body with | some c => c | none => .skip) = true := by kernel_rfl
def od69 : Ords := [(17, [0, 1, 2, 3, 4, 5, 6, 7, 8, 9, 10, 11, 1012, 13, 14])]
theorem code69 : codeB Try.f69.ntmps od69 (match Try.f69.body with | some c => c | none => .skip) = true := by kernel_rfl
abbrev qU (z : Int) : D := .lit (.int .u64 z)
theorem wU {x : Int} (h : 0 ≤ x ∧ x < 18446744073709551616) : IntKind.u64.wrap x = x := by
  rw [show IntKind.u64.wrap x = (if (false && decide (x % (2 ^ 64 : Int) ≥ (2 ^ 63 : Int))) = true then x % (2 ^ 64 : Int) - (2 ^ 64 : Int) else x % (2 ^ 64 : Int)) from rfl]
  rw [if_neg (by simp)]
  have e1 : (2 : Int) ^ 64 = 18446744073709551616 := by decide
  rw [e1]; omega
def lenT (n : Nat) : Nat := if n = 0 then 0 else if n < 2 then 1 else if n < 4 then 2 else if n < 8 then 3 else if n < 16 then 4 else if n < 32 then 5 else 6
theorem retN {a b : Int} (h : a = b) : mkRet [.d (.lit (.int .i64 a))] = .d (nI b) := by subst h; rfl
theorem ok81 (n : Nat) (h : n < 64) : Go.Am.Pure Try.prog 81 [.d (qU n)] (.d (nI (lenT n))) := by
  refine CallOk.of tysOk mixed od81 Try.func81 rfl rfl code81 ?_
  refine W.ite_f (decide_eq_false (by omega)) ?_
  refine W.ite_f (decide_eq_false (by omega)) ?_
  refine W.ite_f (decide_eq_false (by omega)) ?_
  refine W.need ?_ ?_
  · revert n; decide +kernel
  refine W.ret (RetQ.pure rfl (retN ?_))
  revert n; decide +kernel
theorem ok62 (n : Nat) (h : n < 64) : Go.Am.Pure Try.prog 62 [.d (qU n)] (.d (nI (lenT n))) := by
  refine CallOk.of tysOk mixed od62 Try.func62 rfl rfl code62 ?_
  refine W.ite_f rfl ?_
  exact W.pure (ok81 n h) rfl rfl (W.ret (RetQ.pure rfl rfl))
theorem ok93 (l : Nat) (h1 : 8 ≤ l) (h : l < 50) : Go.Am.Pure Try.prog 93 [.d (nI l)] (.d (qU ((if l < 16 then 16 else if l < 32 then 32 else 64 : Nat) : Int))) := by
  refine CallOk.of tysOk mixed od93 Try.func93 rfl rfl code93 ?_
  refine W.callT [] (ok62 l (by omega)) (by decide) rfl rfl (by rw [wU (by omega)]; rfl) rfl ?_
  rintro v σ ⟨rfl, rfl⟩
  refine W.need (by omega) ?_
  refine W.ret (RetQ.pure rfl ?_)
  revert h1 h
  revert l
  have : ∀ l, l < 50 → 8 ≤ l → IntKind.u64.wrap (1 * 2 ^ min ((lenT l : Nat) : Int).toNat IntKind.u64.bits) = ((if l < 16 then 16 else if l < 32 then 32 else 64 : Nat) : Int) := by decide +kernel
  intro l h1 h
  exact congrArg (fun x => AV.d (qU x)) (this l h h1)
theorem ok94 (r : Int) : CallOk Try.prog 94 [.ptr 0 0] [.var [.d (qU r)]] (fun v s => ∃ r', v = .d (qU r') ∧ s = [.var [.d (qU r')]]) := by
  refine CallOk.of tysOk mixed od94 Try.func94 rfl rfl code94 ?_
  refine W.need (by decide) ?_
  refine W.need (by decide) ?_
  refine W.need (by decide) ?_
  exact W.ret (RetQ.all ⟨_, rfl, rfl⟩)
theorem and_le (r : Int) (M : Nat) (h1 : 1 ≤ M) (h2 : M ≤ 128) : ∃ o : Nat, IntKind.i64.wrap (IntKind.u64.wrap ((BitVec.ofInt IntKind.u64.bits r &&& BitVec.ofInt IntKind.u64.bits (IntKind.u64.wrap ((M : Int) - 1))).toNat)) = (o : Int) ∧ o < M := by
  rw [wU (x := (M : Int) - 1) (by omega)]
  have hle : (BitVec.ofInt IntKind.u64.bits r &&& BitVec.ofInt IntKind.u64.bits ((M : Int) - 1)).toNat ≤ M - 1 := by
    rw [BitVec.toNat_and]
    refine Nat.le_trans Nat.and_le_right ?_
    rw [BitVec.toNat_ofInt]
    have : ((2 ^ IntKind.u64.bits : Nat) : Int) = 18446744073709551616 := by decide
    rw [this]
    omega
  refine ⟨(BitVec.ofInt IntKind.u64.bits r &&& BitVec.ofInt IntKind.u64.bits ((M : Int) - 1)).toNat, ?_, by omega⟩
  rw [wU (by omega), wI (by omega)]
set_option maxHeartbeats 4000000 in
theorem ok85 {n : Nat} (zs : List Int) (a b : Nat) (hl0 : zs.length = n) (hab : a + 8 ≤ b) (hab2 : b < a + 50) (hb : b ≤ n) (hn : n ≤ 1000000) :
    CallOk Try.prog 85 [rV n, .d (nI a), .d (nI b)] [rB zs] (Mv a b zs fun v zs' => v = .tuple []) := by
  refine CallOk.of tysOk mixed od85 Try.func85 rfl rfl code85 ?_
  obtain ⟨l, hl⟩ : ∃ l, b - a = l := ⟨_, rfl⟩
  have el : IntKind.i64.wrap ((b : Int) - (a : Int)) = (l : Int) := by rw [wI (by omega)]; omega
  obtain ⟨M, hM⟩ : ∃ M, (if l < 16 then 16 else if l < 32 then 32 else 64 : Nat) = M := ⟨_, rfl⟩
  have hM2 : 1 ≤ M ∧ M ≤ 128 ∧ M ≤ 2 * l := by
    by_cases q1 : l < 16
    · rw [if_pos q1] at hM; omega
    · by_cases q2 : l < 32
      · rw [if_neg q1, if_pos q2] at hM; omega
      · rw [if_neg q1, if_neg q2] at hM; omega
  have kN : Go.Am.Pure Try.prog 93 [.d (nI (IntKind.i64.wrap ((b : Int) - (a : Int))))] (.d (qU M)) := by rw [el, ← hM]; exact ok93 l (by omega) (by omega)
  have e2 : ∀ x : Int, x = (l : Int) → IntKind.i64.wrap ((a : Int) + IntKind.i64.wrap (IntKind.i64.wrap (x.tdiv 4) * 2)) = ((a + l / 4 * 2 : Nat) : Int) := fun x hx => by
    rw [hx, Int.tdiv_eq_ediv_of_nonneg (by omega), wI (x := (l : Int) / 4) (by omega), wI (x := (l : Int) / 4 * 2) (by omega), wI (by omega)]; omega
  have e3 : IntKind.i64.wrap (IntKind.i64.wrap ((a : Int) + IntKind.i64.wrap (IntKind.i64.wrap ((IntKind.i64.wrap ((b : Int) - (a : Int))).tdiv 4) * 2)) - 1) = ((a + l / 4 * 2 - 1 : Nat) : Int) := by
    rw [e2 _ el, wI (by omega)]; omega
  have e4 : IntKind.i64.wrap (IntKind.i64.wrap ((a : Int) + IntKind.i64.wrap (IntKind.i64.wrap (((l : Int)).tdiv 4) * 2)) + 1) = ((a + l / 4 * 2 + 1 : Nat) : Int) := by
    rw [e2 _ rfl, wI (by omega)]; rfl
  refine W.ite_t (decide_eq_true (by rw [el]; omega)) ?_
  refine W.pure kN rfl rfl ?_
  refine W.need (by decide) ?_
  refine W.loop (fun k fr σ => ∃ (i : Nat) (r : Int) (xs : List Int), fr = [(0, rV n), (1, .d (nI a)), (2, .d (nI b)), (6, .d (nI l)), (7, .ptr 1 0), (8, .d (qU M)), (9, .d (nI i))] ∧ σ = [rB xs, .var [.d (qU r)]] ∧ Sg a b zs xs ∧ a ≤ i ∧ i ≤ a + l / 4 * 2 + 2 ∧ k = a + l / 4 * 2 + 2 - i) (a + l / 4 * 2 + 2 - (a + l / 4 * 2 - 1))
    (Start.of [0, 1, 2, 6, 7, 8, 9] [] (by simp)) ⟨a + l / 4 * 2 - 1, _, zs, by rw [← e3, ← el]; rfl, rfl, Sg.refl _ _ _, by omega, by omega, rfl⟩ ?_
  rintro k fr σ ⟨i, r, xs, rfl, rfl, hX, h1, h2, rfl⟩
  have hlx := hX.len
  refine W.need (by decide) ?_
  by_cases hi : i ≤ a + l / 4 * 2 + 1
  · refine W.ite_t (decide_eq_true (by rw [e4]; omega)) ?_
    refine W.callT [1] (ok94 r) (by decide) rfl rfl rfl rfl ?_
    rintro v σ ⟨r', rfl, rfl⟩
    obtain ⟨o, ho, hoM⟩ := and_le r' M hM2.1 hM2.2.1
    have gi : IntKind.i64.wrap ((i : Int) + 1) = ((i + 1 : Nat) : Int) := by rw [wI (by omega)]; rfl
    by_cases hol : l ≤ o
    · have ey : IntKind.i64.wrap ((a : Int) + IntKind.i64.wrap (IntKind.i64.wrap (IntKind.u64.wrap ((BitVec.ofInt IntKind.u64.bits r' &&& BitVec.ofInt IntKind.u64.bits (IntKind.u64.wrap ((M : Int) - 1))).toNat)) - (l : Int))) = ((a + (o - l) : Nat) : Int) := by
        rw [ho, wI (x := (o : Int) - (l : Int)) (by omega), wI (by omega)]; omega
      refine W.ite_t (decide_eq_true (by rw [ho]; omega)) ?_
      refine W.need (ixI ey (show a + (o - l) < n by omega)) ?_
      refine W.ld (eEI ey (show a + (o - l) < xs.length by omega)) ?_
      refine W.need (ixI (show (i : Int) = (i : Int) from rfl) (show i < n by omega)) ?_
      refine W.ld (eEI (show (i : Int) = (i : Int) from rfl) (show i < xs.length by omega)) ?_
      refine W.need (ixI (show (i : Int) = (i : Int) from rfl) (show i < n by omega)) ?_
      refine W.need (st0 (show (i : Int) = (i : Int) from rfl) (show i < xs.length by omega)) ?_
      refine W.need (ixI ey (show a + (o - l) < n by omega)) ?_
      refine W.need (st1 (show (i : Int) = (i : Int) from rfl) ey (show i < xs.length by omega) (show a + (o - l) < xs.length by omega)) ?_
      refine W.ret ⟨_, _, _, ?_, Trim.of [0, 1, 2, 6, 7, 8, 9] [0, 1] (by decide) (by simp) keepR2, i + 1, r', sw xs i (a + (o - l)), ?_, ?_, hX.trans (Sg.sw ⟨by omega, by omega⟩ ⟨by omega, by omega⟩ (by omega)), by omega, by omega, rfl⟩
      · omega
      · rw [← gi]; rfl
      · exact congrArg (fun x : Store => x ++ [.var [.d (qU r')]]) (swI (zs := xs) (i := i) (j := a + (o - l)) rfl ey (by omega) (by omega))
    · have ey : IntKind.i64.wrap ((a : Int) + IntKind.i64.wrap (IntKind.u64.wrap ((BitVec.ofInt IntKind.u64.bits r' &&& BitVec.ofInt IntKind.u64.bits (IntKind.u64.wrap ((M : Int) - 1))).toNat))) = ((a + o : Nat) : Int) := by
        rw [ho, wI (by omega)]; rfl
      refine W.ite_f (decide_eq_false (by rw [ho]; omega)) ?_
      refine W.need (ixI ey (show a + o < n by omega)) ?_
      refine W.ld (eEI ey (show a + o < xs.length by omega)) ?_
      refine W.need (ixI (show (i : Int) = (i : Int) from rfl) (show i < n by omega)) ?_
      refine W.ld (eEI (show (i : Int) = (i : Int) from rfl) (show i < xs.length by omega)) ?_
      refine W.need (ixI (show (i : Int) = (i : Int) from rfl) (show i < n by omega)) ?_
      refine W.need (st0 (show (i : Int) = (i : Int) from rfl) (show i < xs.length by omega)) ?_
      refine W.need (ixI ey (show a + o < n by omega)) ?_
      refine W.need (st1 (show (i : Int) = (i : Int) from rfl) ey (show i < xs.length by omega) (show a + o < xs.length by omega)) ?_
      refine W.ret ⟨_, _, _, ?_, Trim.of [0, 1, 2, 6, 7, 8, 9] [0, 1] (by decide) (by simp) keepR2, i + 1, r', sw xs i (a + o), ?_, ?_, hX.trans (Sg.sw ⟨by omega, by omega⟩ ⟨by omega, by omega⟩ (by omega)), by omega, by omega, rfl⟩
      · omega
      · rw [← gi]; rfl
      · exact congrArg (fun x : Store => x ++ [.var [.d (qU r')]]) (swI (zs := xs) (i := i) (j := a + o) rfl ey (by omega) (by omega))
  · refine W.ite_f (decide_eq_false (by rw [e4]; omega)) ?_
    refine W.ret ?_
    exact W.ret (RetQ.part [0] (by decide) (by intro q hq; obtain rfl := List.mem_singleton.1 hq; show 0 < 2; decide) keepR ⟨xs, rfl, hX, rfl⟩)
end Go.Proofs.Ytddhlmejaobcgaa.Pi

set_option maxRecDepth 100000
set_option linter.unusedVariables false
set_option linter.unusedSimpArgs false
/- Sorting in place: all of it, of fewer than 50. -/
namespace Go.Proofs.Ytddhlmejaobcgaa.Pi
open Go Go.Am Co
def od55 : Ords := []
theorem code55 : codeB Try.f55.ntmps od55 (match Try.f55.body with | some c => c | none => .skip) = true := by kernel_rfl
/-- Sorted but for what lies within. -/
structure Pq (a b c d : Nat) (zs xs : List Int) : Prop where
  s : Sg a b zs xs
  h1 : a ≤ c
  h2 : c ≤ d
  h3 : d ≤ b
  e : ∀ i j, a ≤ i → i ≤ j → j < b → (i < c ∨ d ≤ j) → g xs i ≤ g xs j
  p : 0 < c → ∀ q, c ≤ q → q < d → g xs (c - 1) ≤ g xs q
theorem Pq.inner {a b c d : Nat} {zs xs ys : List Int} (h : Pq a b c d zs xs) (k : Sg c d xs ys) : Pq a b c d zs ys where
  s := h.s.trans (k.wide h.h1 h.h3)
  h1 := h.h1
  h2 := h.h2
  h3 := h.h3
  e := fun i j i1 i2 i3 i4 => by
    rcases i4 with i4 | i4
    · rw [k.out i (.inl i4)]
      by_cases hj : c ≤ j ∧ j < d
      · obtain ⟨r, r1, r2, r3⟩ := k.src j hj.1 hj.2
        rw [r3]; exact h.e i r i1 (by omega) (by have := h.h3; omega) (.inl i4)
      · rw [k.out j (by omega)]; exact h.e i j i1 i2 i3 (.inl i4)
    · rw [k.out j (.inr i4)]
      by_cases hi : c ≤ i ∧ i < d
      · obtain ⟨r, r1, r2, r3⟩ := k.src i hi.1 hi.2
        rw [r3]; exact h.e r j (by have := h.h1; omega) (by omega) i3 (.inr i4)
      · rw [k.out i (by omega)]; exact h.e i j i1 i2 i3 (.inr i4)
  p := fun h0 q q1 q2 => by
    obtain ⟨r, r1, r2, r3⟩ := k.src q q1 q2
    rw [k.out (c - 1) (by omega), r3]; exact h.p h0 r r1 r2
theorem Pq.fin {a b c d : Nat} {zs xs : List Int} (h : Pq a b c d zs xs) (hs : So c d xs) : So a b xs := fun i j i1 i2 i3 => by
  by_cases hc : i < c ∨ d ≤ j
  · exact h.e i j i1 i2 i3 hc
  · exact hs i j (by omega) i2 (by omega)
theorem Pq.eq {a b c d m x : Nat} {zs xs ys : List Int} (h : Pq a b c d zs xs) (k : Sg c d xs ys) (h0 : 0 < c) (hx : ¬ g xs (c - 1) < g xs x) (m1 : c < m) (m2 : m ≤ d) (q1 : ∀ q, c < q → q < m → g ys q ≤ g ys c) (q3 : g ys c = g xs x) : Pq a b m d zs ys := by
  have h' := h.inner k
  have hh1 := h.h1
  have hh3 := h.h3
  have low : ∀ q, c ≤ q → q < m → ∀ r, c ≤ r → r < d → g ys q ≤ g ys r := fun q a1 a2 r a3 a4 => by
    have e1 : g ys q ≤ g ys c := by
      by_cases e : q = c
      · rw [e]; exact Int.le_refl _
      · exact q1 q (by omega) a2
    have e2 := h'.p h0 r a3 a4
    rw [k.out (c - 1) (by omega)] at e2
    omega
  refine ⟨h'.s, by omega, m2, h.h3, fun i j i1 i2 i3 i4 => ?_, fun _ q a1 a2 => low (m - 1) (by omega) (by omega) q (by omega) a2⟩
  by_cases hc : i < c ∨ d ≤ j
  · exact h'.e i j i1 i2 i3 hc
  · exact low i (by omega) (by omega) j (by omega) (by omega)
theorem Pq.left {a b c d m : Nat} {zs ys ws : List Int} (h : Pq a b c d zs ys) (m1 : c ≤ m) (m2 : m < d) (q1 : ∀ q, c ≤ q → q < m → g ys q ≤ g ys m) (q2 : ∀ q, m < q → q < d → g ys m ≤ g ys q) (k : Sg c m ys ws) (hs : So c m ws) : Pq a b (m + 1) d zs ws := by
  have h' := h.inner (k.wide (Nat.le_refl _) (Nat.le_of_lt m2))
  have hh1 := h.h1
  have hh3 := h.h3
  have gm : g ws m = g ys m := k.out m (.inr (Nat.le_refl _))
  have lo : ∀ q, c ≤ q → q < m → g ws q ≤ g ws m := fun q a1 a2 => by
    obtain ⟨r, r1, r2, r3⟩ := k.src q a1 a2
    rw [r3, gm]; exact q1 r r1 r2
  have up : ∀ q, m < q → q < d → g ws m ≤ g ws q := fun q a1 a2 => by
    rw [gm, k.out q (.inr (by omega))]; exact q2 q a1 a2
  refine ⟨h'.s, by omega, by omega, h.h3, fun i j i1 i2 i3 i4 => ?_, fun _ q a1 a2 => up q (by omega) a2⟩
  by_cases hc : i < c ∨ d ≤ j
  · exact h'.e i j i1 i2 i3 hc
  · by_cases e1 : j < m
    · exact hs i j (by omega) i2 e1
    · by_cases e2 : j = m
      · rw [e2]
        by_cases e3 : i = m
        · rw [e3]; exact Int.le_refl _
        · exact lo i (by omega) (by omega)
      · by_cases e3 : i = m
        · rw [e3]; exact up j (by omega) (by omega)
        · exact Int.le_trans (lo i (by omega) (by omega)) (up j (by omega) (by omega))
theorem Pq.right {a b c d m : Nat} {zs ys ws : List Int} (h : Pq a b c d zs ys) (m1 : c ≤ m) (m2 : m < d) (q1 : ∀ q, c ≤ q → q < m → g ys q ≤ g ys m) (q2 : ∀ q, m < q → q < d → g ys m ≤ g ys q) (k : Sg (m + 1) d ys ws) (hs : So (m + 1) d ws) : Pq a b c m zs ws := by
  have h' := h.inner (k.wide (by omega) (Nat.le_refl _))
  have hh1 := h.h1
  have hh3 := h.h3
  have gm : g ws m = g ys m := k.out m (.inl (by omega))
  have lo : ∀ q, c ≤ q → q < m → g ws q ≤ g ws m := fun q a1 a2 => by
    rw [gm, k.out q (.inl (by omega))]; exact q1 q a1 a2
  have up : ∀ q, m < q → q < d → g ws m ≤ g ws q := fun q a1 a2 => by
    obtain ⟨r, r1, r2, r3⟩ := k.src q (by omega) a2
    rw [r3, gm]; exact q2 r (by omega) r2
  refine ⟨h'.s, h.h1, m1, by omega, fun i j i1 i2 i3 i4 => ?_, fun h0 q a1 a2 => h'.p h0 q a1 (by omega)⟩
  by_cases hc : i < c ∨ d ≤ j
  · exact h'.e i j i1 i2 i3 hc
  · by_cases e1 : m < i
    · exact hs i j (by omega) i2 (by omega)
    · by_cases e2 : i = m
      · rw [e2]
        by_cases e3 : j = m
        · rw [e3]; exact Int.le_refl _
        · exact up j (by omega) (by omega)
      · by_cases e3 : j = m
        · rw [e3]; exact lo i (by omega) (by omega)
        · exact Int.le_trans (lo i (by omega) (by omega)) (up j (by omega) (by omega))
set_option maxHeartbeats 16000000 in
theorem ok69 {n : Nat} (hn : n < 50) : ∀ (N : Nat) (zs : List Int) (a b lim : Nat), b - a = N → zs.length = n → a ≤ b → b ≤ n → lim ≤ 64 → (0 < a → ∀ q, a ≤ q → q < b → g zs (a - 1) ≤ g zs q) →
    CallOk Try.prog 69 [rV n, .d (nI a), .d (nI b), .d (nI lim)] [rB zs] (Mv a b zs fun v zs' => v = .tuple [] ∧ So a b zs') := by
  intro N
  induction N using Nat.strongRecOn with
  | ind N ih =>
  intro zs a b lim hN hl0 hab hb hlim hp
  refine CallOk.of tysOk mixed od69 Try.func69 rfl rfl code69 ?_
  refine W.loop (fun k fr σ => ∃ (c d lm : Nat) (wb wp : Bool) (xs : List Int), fr = [(0, rV n), (1, .d (nI c)), (2, .d (nI d)), (3, .d (nI lm)), (8, bI wb), (9, bI wp)] ∧ σ = [rB xs] ∧ Pq a b c d zs xs ∧ lm ≤ 64 ∧ k = d - c) (b - a)
    (Start.of [0, 1, 2, 3, 8, 9] [] (by simp)) ⟨a, b, lim, true, true, zs, rfl, rfl, ⟨Sg.refl _ _ _, Nat.le_refl _, hab, Nat.le_refl _, fun i j i1 i2 i3 i4 => by omega, hp⟩, hlim, rfl⟩ ?_
  rintro k fr σ ⟨c, d, lm, wb, wp, xs, rfl, rfl, hQ, hlm, rfl⟩
  have hh1 := hQ.h1
  have hh2 := hQ.h2
  have hh3 := hQ.h3
  have hl : xs.length = n := by rw [hQ.s.len]; exact hl0
  have el : IntKind.i64.wrap ((d : Int) - (c : Int)) = ((d - c : Nat) : Int) := by rw [wI (by omega)]; omega
  by_cases h12 : d - c ≤ 12
  · refine W.ite_t (decide_eq_true (by rw [el]; omega)) ?_
    refine W.callT [0] (ok83 (n := n) xs c d hl hh2 (by omega) (by omega)) (by decide) rfl rfl rfl rfl ?_
    rintro v σ ⟨ys, rfl, kS, rfl, hso⟩
    have hQ' := hQ.inner kS
    exact W.ret (W.ret (RetQ.all ⟨ys, rfl, hQ'.s, rfl, hQ'.fin hso⟩))
  · refine W.ite_f (decide_eq_false (by rw [el]; omega)) ?_
    by_cases hz : lm = 0
    · subst hz
      refine W.ite_t rfl ?_
      refine W.callT [0] (ok84 (n := n) xs c d hl (by omega) (by omega) (by omega)) (by decide) rfl rfl rfl rfl ?_
      rintro v σ ⟨ys, rfl, kS, rfl, hso⟩
      have hQ' := hQ.inner kS
      exact W.ret (W.ret (RetQ.all ⟨ys, rfl, hQ'.s, rfl, hQ'.fin hso⟩))
    · refine W.ite_f (beq_eq_false_iff_ne.2 (by omega)) ?_
      cases wb with
      | false =>
        refine W.ite_t rfl ?_
        refine W.callT [0] (ok85 (n := n) xs c d hl (by omega) (by omega) (by omega) (by omega)) (by decide) rfl rfl rfl rfl ?_
        rintro v σ ⟨ys, rfl, kS, rfl⟩
        have hQ2 := hQ.inner kS
        have hl2 : ys.length = n := by rw [hQ2.s.len]; exact hl0
        clear hQ hl kS
        revert hQ2 hl2
        generalize ys = xs
        intro hQ hl
        have elm : IntKind.i64.wrap ((lm : Int) - 1) = ((lm - 1 : Nat) : Int) := by rw [wI (by omega)]; omega
        skip
        refine W.callT [0] (ok86 (n := n) xs c d hl (by omega) (by omega) (by omega) (by omega)) (by decide) rfl rfl rfl rfl ?_
        rintro v σ ⟨x, hint, rfl, rfl, hx1, hx2, hh⟩
        refine W.ite_f (beq_eq_false_iff_ne.2 (by omega)) ?_
        repeat (first | refine W.ite_t rfl ?_ | refine W.ite_f rfl ?_)
        by_cases h0 : 0 < c
        · have c1 : decide ((c : Int) > 0) = true := decide_eq_true (by omega)
          have ec : IntKind.i64.wrap ((c : Int) - 1) = ((c - 1 : Nat) : Int) := by rw [wI (by omega)]; omega
          repeat (first | refine W.ite_t c1 ?_ | refine W.ite_t rfl ?_ | refine W.ite_f rfl ?_)
          refine W.need (ixI ec (by omega)) ?_
          repeat (first | refine W.ite_t c1 ?_ | refine W.ite_t rfl ?_ | refine W.ite_f rfl ?_)
          refine W.ld (eEI ec (by omega)) ?_
          repeat (first | refine W.ite_t c1 ?_ | refine W.ite_t rfl ?_ | refine W.ite_f rfl ?_)
          refine W.need (ixI (i := x) rfl (by omega)) ?_
          repeat (first | refine W.ite_t c1 ?_ | refine W.ite_t rfl ?_ | refine W.ite_f rfl ?_)
          refine W.ld (eEI (i := x) rfl (by omega)) ?_
          repeat (first | refine W.ite_t c1 ?_ | refine W.ite_t rfl ?_ | refine W.ite_f rfl ?_)
          refine W.pure (ok89 _ _) rfl rfl ?_
          repeat (first | refine W.ite_t c1 ?_ | refine W.ite_t rfl ?_ | refine W.ite_f rfl ?_)
          refine W.ite (fun cc => ?_) (fun cc => ?_)
          · have hx : ¬ g xs (c - 1) < g xs x := of_decide_eq_false (by simpa using cc)
            refine W.callT [0] (ok90 (n := n) xs c d x hl ⟨hx1, hx2⟩ (by omega) (by omega)) (by decide) rfl rfl rfl rfl ?_
            rintro v σ ⟨ys, rfl, kS, m, rfl, m1, m2, q1, q2, q3⟩
            refine W.ret ⟨_, _, _, ?_, Trim.of [0, 1, 2, 3, 8, 9] [0] (by decide) (by intro q hq; obtain rfl := List.mem_singleton.1 hq; exact Nat.zero_lt_one) keepR, m, d, (lm - 1), false, wp, ys, ?_, rfl, hQ.eq kS h0 hx m1 m2 q1 q3, by omega, rfl⟩
            · omega
            · rw [← elm]; rfl
          · clear c1 cc
            refine W.callT [0] (ok91 (n := n) xs c d x hl ⟨hx1, hx2⟩ (by omega) (by omega)) (by decide) rfl rfl rfl rfl ?_
            rintro v σ ⟨ys, rfl, kS, m, r, rfl, m1, m2, q1, q2⟩
            have hQ' := hQ.inner kS
            have hly := hQ'.s.len
            have em : IntKind.i64.wrap ((m : Int) + 1) = ((m + 1 : Nat) : Int) := by rw [wI (by omega)]; rfl
            refine W.need (by decide) ?_
            refine W.ite (fun cc => ?_) (fun cc => ?_)
            · clear cc
              refine W.callT [0] (ih (m - c) (by omega) ys c m (lm - 1) rfl (by omega) (by omega) (by omega) (by omega) (fun h0 q w1 w2 => hQ'.p h0 q w1 (by omega))) (by decide) rfl rfl (by rw [← elm]; rfl) rfl ?_
              rintro v σ ⟨ws, rfl, kS2, rfl, hso⟩
              refine W.ret ⟨_, _, _, ?_, Trim.of [0, 1, 2, 3, 8, 9] [0] (by decide) (by intro q hq; obtain rfl := List.mem_singleton.1 hq; exact Nat.zero_lt_one) keepR, m + 1, d, (lm - 1), decide (IntKind.i64.wrap ((m : Int) - (c : Int)) ≥ IntKind.i64.wrap ((IntKind.i64.wrap ((d : Int) - (c : Int))).tdiv 8)), r, ws, ?_, rfl, hQ'.left m1 m2 q1 q2 kS2 hso, by omega, rfl⟩
              · omega
              · rw [← em, ← elm]; rfl
            · clear cc
              refine W.callT [0] (ih (d - (m + 1)) (by omega) ys (m + 1) d (lm - 1) rfl (by omega) (by omega) (by omega) (by omega) (fun h0 q w1 w2 => q2 q (by omega) w2)) (by decide) rfl rfl (by rw [← em, ← elm]; rfl) rfl ?_
              rintro v σ ⟨ws, rfl, kS2, rfl, hso⟩
              refine W.ret ⟨_, _, _, ?_, Trim.of [0, 1, 2, 3, 8, 9] [0] (by decide) (by intro q hq; obtain rfl := List.mem_singleton.1 hq; exact Nat.zero_lt_one) keepR, c, m, (lm - 1), decide (IntKind.i64.wrap ((d : Int) - (m : Int)) ≥ IntKind.i64.wrap ((IntKind.i64.wrap ((d : Int) - (c : Int))).tdiv 8)), r, ws, ?_, rfl, hQ'.right m1 m2 q1 q2 kS2 hso, by omega, rfl⟩
              · omega
              · rw [← elm]; rfl
        · have c1 : decide ((c : Int) > 0) = false := decide_eq_false (by omega)
          repeat (first | refine W.ite_f c1 ?_ | refine W.ite_t rfl ?_ | refine W.ite_f rfl ?_)
          clear c1
          refine W.callT [0] (ok91 (n := n) xs c d x hl ⟨hx1, hx2⟩ (by omega) (by omega)) (by decide) rfl rfl rfl rfl ?_
          rintro v σ ⟨ys, rfl, kS, m, r, rfl, m1, m2, q1, q2⟩
          have hQ' := hQ.inner kS
          have hly := hQ'.s.len
          have em : IntKind.i64.wrap ((m : Int) + 1) = ((m + 1 : Nat) : Int) := by rw [wI (by omega)]; rfl
          refine W.need (by decide) ?_
          refine W.ite (fun cc => ?_) (fun cc => ?_)
          · clear cc
            refine W.callT [0] (ih (m - c) (by omega) ys c m (lm - 1) rfl (by omega) (by omega) (by omega) (by omega) (fun h0 q w1 w2 => hQ'.p h0 q w1 (by omega))) (by decide) rfl rfl (by rw [← elm]; rfl) rfl ?_
            rintro v σ ⟨ws, rfl, kS2, rfl, hso⟩
            refine W.ret ⟨_, _, _, ?_, Trim.of [0, 1, 2, 3, 8, 9] [0] (by decide) (by intro q hq; obtain rfl := List.mem_singleton.1 hq; exact Nat.zero_lt_one) keepR, m + 1, d, (lm - 1), decide (IntKind.i64.wrap ((m : Int) - (c : Int)) ≥ IntKind.i64.wrap ((IntKind.i64.wrap ((d : Int) - (c : Int))).tdiv 8)), r, ws, ?_, rfl, hQ'.left m1 m2 q1 q2 kS2 hso, by omega, rfl⟩
            · omega
            · rw [← em, ← elm]; rfl
          · clear cc
            refine W.callT [0] (ih (d - (m + 1)) (by omega) ys (m + 1) d (lm - 1) rfl (by omega) (by omega) (by omega) (by omega) (fun h0 q w1 w2 => q2 q (by omega) w2)) (by decide) rfl rfl (by rw [← em, ← elm]; rfl) rfl ?_
            rintro v σ ⟨ws, rfl, kS2, rfl, hso⟩
            refine W.ret ⟨_, _, _, ?_, Trim.of [0, 1, 2, 3, 8, 9] [0] (by decide) (by intro q hq; obtain rfl := List.mem_singleton.1 hq; exact Nat.zero_lt_one) keepR, c, m, (lm - 1), decide (IntKind.i64.wrap ((d : Int) - (m : Int)) ≥ IntKind.i64.wrap ((IntKind.i64.wrap ((d : Int) - (c : Int))).tdiv 8)), r, ws, ?_, rfl, hQ'.right m1 m2 q1 q2 kS2 hso, by omega, rfl⟩
            · omega
            · rw [← elm]; rfl
      | true =>
        refine W.ite_f rfl ?_
        refine W.callT [0] (ok86 (n := n) xs c d hl (by omega) (by omega) (by omega) (by omega)) (by decide) rfl rfl rfl rfl ?_
        rintro v σ ⟨x, hint, rfl, rfl, hx1, hx2, hh⟩
        refine W.ite_f (beq_eq_false_iff_ne.2 (by omega)) ?_
        cases wp with
        | false =>
          repeat (first | refine W.ite_t rfl ?_ | refine W.ite_f rfl ?_)
          by_cases h0 : 0 < c
          · have c1 : decide ((c : Int) > 0) = true := decide_eq_true (by omega)
            have ec : IntKind.i64.wrap ((c : Int) - 1) = ((c - 1 : Nat) : Int) := by rw [wI (by omega)]; omega
            repeat (first | refine W.ite_t c1 ?_ | refine W.ite_t rfl ?_ | refine W.ite_f rfl ?_)
            refine W.need (ixI ec (by omega)) ?_
            repeat (first | refine W.ite_t c1 ?_ | refine W.ite_t rfl ?_ | refine W.ite_f rfl ?_)
            refine W.ld (eEI ec (by omega)) ?_
            repeat (first | refine W.ite_t c1 ?_ | refine W.ite_t rfl ?_ | refine W.ite_f rfl ?_)
            refine W.need (ixI (i := x) rfl (by omega)) ?_
            repeat (first | refine W.ite_t c1 ?_ | refine W.ite_t rfl ?_ | refine W.ite_f rfl ?_)
            refine W.ld (eEI (i := x) rfl (by omega)) ?_
            repeat (first | refine W.ite_t c1 ?_ | refine W.ite_t rfl ?_ | refine W.ite_f rfl ?_)
            refine W.pure (ok89 _ _) rfl rfl ?_
            repeat (first | refine W.ite_t c1 ?_ | refine W.ite_t rfl ?_ | refine W.ite_f rfl ?_)
            refine W.ite (fun cc => ?_) (fun cc => ?_)
            · have hx : ¬ g xs (c - 1) < g xs x := of_decide_eq_false (by simpa using cc)
              refine W.callT [0] (ok90 (n := n) xs c d x hl ⟨hx1, hx2⟩ (by omega) (by omega)) (by decide) rfl rfl rfl rfl ?_
              rintro v σ ⟨ys, rfl, kS, m, rfl, m1, m2, q1, q2, q3⟩
              refine W.ret ⟨_, _, _, ?_, Trim.of [0, 1, 2, 3, 8, 9] [0] (by decide) (by intro q hq; obtain rfl := List.mem_singleton.1 hq; exact Nat.zero_lt_one) keepR, m, d, lm, true, false, ys, ?_, rfl, hQ.eq kS h0 hx m1 m2 q1 q3, by omega, rfl⟩
              · omega
              · rfl
            · clear c1 cc
              refine W.callT [0] (ok91 (n := n) xs c d x hl ⟨hx1, hx2⟩ (by omega) (by omega)) (by decide) rfl rfl rfl rfl ?_
              rintro v σ ⟨ys, rfl, kS, m, r, rfl, m1, m2, q1, q2⟩
              have hQ' := hQ.inner kS
              have hly := hQ'.s.len
              have em : IntKind.i64.wrap ((m : Int) + 1) = ((m + 1 : Nat) : Int) := by rw [wI (by omega)]; rfl
              refine W.need (by decide) ?_
              refine W.ite (fun cc => ?_) (fun cc => ?_)
              · clear cc
                refine W.callT [0] (ih (m - c) (by omega) ys c m lm rfl (by omega) (by omega) (by omega) (by omega) (fun h0 q w1 w2 => hQ'.p h0 q w1 (by omega))) (by decide) rfl rfl rfl rfl ?_
                rintro v σ ⟨ws, rfl, kS2, rfl, hso⟩
                refine W.ret ⟨_, _, _, ?_, Trim.of [0, 1, 2, 3, 8, 9] [0] (by decide) (by intro q hq; obtain rfl := List.mem_singleton.1 hq; exact Nat.zero_lt_one) keepR, m + 1, d, lm, decide (IntKind.i64.wrap ((m : Int) - (c : Int)) ≥ IntKind.i64.wrap ((IntKind.i64.wrap ((d : Int) - (c : Int))).tdiv 8)), r, ws, ?_, rfl, hQ'.left m1 m2 q1 q2 kS2 hso, by omega, rfl⟩
                · omega
                · rw [← em]; rfl
              · clear cc
                refine W.callT [0] (ih (d - (m + 1)) (by omega) ys (m + 1) d lm rfl (by omega) (by omega) (by omega) (by omega) (fun h0 q w1 w2 => q2 q (by omega) w2)) (by decide) rfl rfl (by rw [← em]; rfl) rfl ?_
                rintro v σ ⟨ws, rfl, kS2, rfl, hso⟩
                refine W.ret ⟨_, _, _, ?_, Trim.of [0, 1, 2, 3, 8, 9] [0] (by decide) (by intro q hq; obtain rfl := List.mem_singleton.1 hq; exact Nat.zero_lt_one) keepR, c, m, lm, decide (IntKind.i64.wrap ((d : Int) - (m : Int)) ≥ IntKind.i64.wrap ((IntKind.i64.wrap ((d : Int) - (c : Int))).tdiv 8)), r, ws, ?_, rfl, hQ'.right m1 m2 q1 q2 kS2 hso, by omega, rfl⟩
                · omega
                · rfl
          · have c1 : decide ((c : Int) > 0) = false := decide_eq_false (by omega)
            repeat (first | refine W.ite_f c1 ?_ | refine W.ite_t rfl ?_ | refine W.ite_f rfl ?_)
            clear c1
            refine W.callT [0] (ok91 (n := n) xs c d x hl ⟨hx1, hx2⟩ (by omega) (by omega)) (by decide) rfl rfl rfl rfl ?_
            rintro v σ ⟨ys, rfl, kS, m, r, rfl, m1, m2, q1, q2⟩
            have hQ' := hQ.inner kS
            have hly := hQ'.s.len
            have em : IntKind.i64.wrap ((m : Int) + 1) = ((m + 1 : Nat) : Int) := by rw [wI (by omega)]; rfl
            refine W.need (by decide) ?_
            refine W.ite (fun cc => ?_) (fun cc => ?_)
            · clear cc
              refine W.callT [0] (ih (m - c) (by omega) ys c m lm rfl (by omega) (by omega) (by omega) (by omega) (fun h0 q w1 w2 => hQ'.p h0 q w1 (by omega))) (by decide) rfl rfl rfl rfl ?_
              rintro v σ ⟨ws, rfl, kS2, rfl, hso⟩
              refine W.ret ⟨_, _, _, ?_, Trim.of [0, 1, 2, 3, 8, 9] [0] (by decide) (by intro q hq; obtain rfl := List.mem_singleton.1 hq; exact Nat.zero_lt_one) keepR, m + 1, d, lm, decide (IntKind.i64.wrap ((m : Int) - (c : Int)) ≥ IntKind.i64.wrap ((IntKind.i64.wrap ((d : Int) - (c : Int))).tdiv 8)), r, ws, ?_, rfl, hQ'.left m1 m2 q1 q2 kS2 hso, by omega, rfl⟩
              · omega
              · rw [← em]; rfl
            · clear cc
              refine W.callT [0] (ih (d - (m + 1)) (by omega) ys (m + 1) d lm rfl (by omega) (by omega) (by omega) (by omega) (fun h0 q w1 w2 => q2 q (by omega) w2)) (by decide) rfl rfl (by rw [← em]; rfl) rfl ?_
              rintro v σ ⟨ws, rfl, kS2, rfl, hso⟩
              refine W.ret ⟨_, _, _, ?_, Trim.of [0, 1, 2, 3, 8, 9] [0] (by decide) (by intro q hq; obtain rfl := List.mem_singleton.1 hq; exact Nat.zero_lt_one) keepR, c, m, lm, decide (IntKind.i64.wrap ((d : Int) - (m : Int)) ≥ IntKind.i64.wrap ((IntKind.i64.wrap ((d : Int) - (c : Int))).tdiv 8)), r, ws, ?_, rfl, hQ'.right m1 m2 q1 q2 kS2 hso, by omega, rfl⟩
              · omega
              · rfl
        | true =>
          rcases hh with rfl | rfl
          · repeat (first | refine W.ite_t rfl ?_ | refine W.ite_f rfl ?_)
            by_cases h0 : 0 < c
            · have c1 : decide ((c : Int) > 0) = true := decide_eq_true (by omega)
              have ec : IntKind.i64.wrap ((c : Int) - 1) = ((c - 1 : Nat) : Int) := by rw [wI (by omega)]; omega
              repeat (first | refine W.ite_t c1 ?_ | refine W.ite_t rfl ?_ | refine W.ite_f rfl ?_)
              refine W.need (ixI ec (by omega)) ?_
              repeat (first | refine W.ite_t c1 ?_ | refine W.ite_t rfl ?_ | refine W.ite_f rfl ?_)
              refine W.ld (eEI ec (by omega)) ?_
              repeat (first | refine W.ite_t c1 ?_ | refine W.ite_t rfl ?_ | refine W.ite_f rfl ?_)
              refine W.need (ixI (i := x) rfl (by omega)) ?_
              repeat (first | refine W.ite_t c1 ?_ | refine W.ite_t rfl ?_ | refine W.ite_f rfl ?_)
              refine W.ld (eEI (i := x) rfl (by omega)) ?_
              repeat (first | refine W.ite_t c1 ?_ | refine W.ite_t rfl ?_ | refine W.ite_f rfl ?_)
              refine W.pure (ok89 _ _) rfl rfl ?_
              repeat (first | refine W.ite_t c1 ?_ | refine W.ite_t rfl ?_ | refine W.ite_f rfl ?_)
              refine W.ite (fun cc => ?_) (fun cc => ?_)
              · have hx : ¬ g xs (c - 1) < g xs x := of_decide_eq_false (by simpa using cc)
                refine W.callT [0] (ok90 (n := n) xs c d x hl ⟨hx1, hx2⟩ (by omega) (by omega)) (by decide) rfl rfl rfl rfl ?_
                rintro v σ ⟨ys, rfl, kS, m, rfl, m1, m2, q1, q2, q3⟩
                refine W.ret ⟨_, _, _, ?_, Trim.of [0, 1, 2, 3, 8, 9] [0] (by decide) (by intro q hq; obtain rfl := List.mem_singleton.1 hq; exact Nat.zero_lt_one) keepR, m, d, lm, true, true, ys, ?_, rfl, hQ.eq kS h0 hx m1 m2 q1 q3, by omega, rfl⟩
                · omega
                · rfl
              · clear c1 cc
                refine W.callT [0] (ok91 (n := n) xs c d x hl ⟨hx1, hx2⟩ (by omega) (by omega)) (by decide) rfl rfl rfl rfl ?_
                rintro v σ ⟨ys, rfl, kS, m, r, rfl, m1, m2, q1, q2⟩
                have hQ' := hQ.inner kS
                have hly := hQ'.s.len
                have em : IntKind.i64.wrap ((m : Int) + 1) = ((m + 1 : Nat) : Int) := by rw [wI (by omega)]; rfl
                refine W.need (by decide) ?_
                refine W.ite (fun cc => ?_) (fun cc => ?_)
                · clear cc
                  refine W.callT [0] (ih (m - c) (by omega) ys c m lm rfl (by omega) (by omega) (by omega) (by omega) (fun h0 q w1 w2 => hQ'.p h0 q w1 (by omega))) (by decide) rfl rfl rfl rfl ?_
                  rintro v σ ⟨ws, rfl, kS2, rfl, hso⟩
                  refine W.ret ⟨_, _, _, ?_, Trim.of [0, 1, 2, 3, 8, 9] [0] (by decide) (by intro q hq; obtain rfl := List.mem_singleton.1 hq; exact Nat.zero_lt_one) keepR, m + 1, d, lm, decide (IntKind.i64.wrap ((m : Int) - (c : Int)) ≥ IntKind.i64.wrap ((IntKind.i64.wrap ((d : Int) - (c : Int))).tdiv 8)), r, ws, ?_, rfl, hQ'.left m1 m2 q1 q2 kS2 hso, by omega, rfl⟩
                  · omega
                  · rw [← em]; rfl
                · clear cc
                  refine W.callT [0] (ih (d - (m + 1)) (by omega) ys (m + 1) d lm rfl (by omega) (by omega) (by omega) (by omega) (fun h0 q w1 w2 => q2 q (by omega) w2)) (by decide) rfl rfl (by rw [← em]; rfl) rfl ?_
                  rintro v σ ⟨ws, rfl, kS2, rfl, hso⟩
                  refine W.ret ⟨_, _, _, ?_, Trim.of [0, 1, 2, 3, 8, 9] [0] (by decide) (by intro q hq; obtain rfl := List.mem_singleton.1 hq; exact Nat.zero_lt_one) keepR, c, m, lm, decide (IntKind.i64.wrap ((d : Int) - (m : Int)) ≥ IntKind.i64.wrap ((IntKind.i64.wrap ((d : Int) - (c : Int))).tdiv 8)), r, ws, ?_, rfl, hQ'.right m1 m2 q1 q2 kS2 hso, by omega, rfl⟩
                  · omega
                  · rfl
            · have c1 : decide ((c : Int) > 0) = false := decide_eq_false (by omega)
              repeat (first | refine W.ite_f c1 ?_ | refine W.ite_t rfl ?_ | refine W.ite_f rfl ?_)
              clear c1
              refine W.callT [0] (ok91 (n := n) xs c d x hl ⟨hx1, hx2⟩ (by omega) (by omega)) (by decide) rfl rfl rfl rfl ?_
              rintro v σ ⟨ys, rfl, kS, m, r, rfl, m1, m2, q1, q2⟩
              have hQ' := hQ.inner kS
              have hly := hQ'.s.len
              have em : IntKind.i64.wrap ((m : Int) + 1) = ((m + 1 : Nat) : Int) := by rw [wI (by omega)]; rfl
              refine W.need (by decide) ?_
              refine W.ite (fun cc => ?_) (fun cc => ?_)
              · clear cc
                refine W.callT [0] (ih (m - c) (by omega) ys c m lm rfl (by omega) (by omega) (by omega) (by omega) (fun h0 q w1 w2 => hQ'.p h0 q w1 (by omega))) (by decide) rfl rfl rfl rfl ?_
                rintro v σ ⟨ws, rfl, kS2, rfl, hso⟩
                refine W.ret ⟨_, _, _, ?_, Trim.of [0, 1, 2, 3, 8, 9] [0] (by decide) (by intro q hq; obtain rfl := List.mem_singleton.1 hq; exact Nat.zero_lt_one) keepR, m + 1, d, lm, decide (IntKind.i64.wrap ((m : Int) - (c : Int)) ≥ IntKind.i64.wrap ((IntKind.i64.wrap ((d : Int) - (c : Int))).tdiv 8)), r, ws, ?_, rfl, hQ'.left m1 m2 q1 q2 kS2 hso, by omega, rfl⟩
                · omega
                · rw [← em]; rfl
              · clear cc
                refine W.callT [0] (ih (d - (m + 1)) (by omega) ys (m + 1) d lm rfl (by omega) (by omega) (by omega) (by omega) (fun h0 q w1 w2 => q2 q (by omega) w2)) (by decide) rfl rfl (by rw [← em]; rfl) rfl ?_
                rintro v σ ⟨ws, rfl, kS2, rfl, hso⟩
                refine W.ret ⟨_, _, _, ?_, Trim.of [0, 1, 2, 3, 8, 9] [0] (by decide) (by intro q hq; obtain rfl := List.mem_singleton.1 hq; exact Nat.zero_lt_one) keepR, c, m, lm, decide (IntKind.i64.wrap ((d : Int) - (m : Int)) ≥ IntKind.i64.wrap ((IntKind.i64.wrap ((d : Int) - (c : Int))).tdiv 8)), r, ws, ?_, rfl, hQ'.right m1 m2 q1 q2 kS2 hso, by omega, rfl⟩
                · omega
                · rfl
          · repeat (first | refine W.ite_t rfl ?_ | refine W.ite_f rfl ?_)
            refine W.callT [0] (ok88 (n := n) xs c d hl (by omega) (by omega) (by omega) (by omega)) (by decide) rfl rfl rfl rfl ?_
            rintro v σ ⟨r, rfl, rfl, hr⟩
            cases r with
            | true =>
              refine W.ite_t rfl ?_
              exact W.ret (W.ret (RetQ.all ⟨xs, rfl, hQ.s, rfl, hQ.fin (hr rfl)⟩))
            | false =>
              refine W.ite_f rfl ?_
              by_cases h0 : 0 < c
              · have c1 : decide ((c : Int) > 0) = true := decide_eq_true (by omega)
                have ec : IntKind.i64.wrap ((c : Int) - 1) = ((c - 1 : Nat) : Int) := by rw [wI (by omega)]; omega
                repeat (first | refine W.ite_t c1 ?_ | refine W.ite_t rfl ?_ | refine W.ite_f rfl ?_)
                refine W.need (ixI ec (by omega)) ?_
                repeat (first | refine W.ite_t c1 ?_ | refine W.ite_t rfl ?_ | refine W.ite_f rfl ?_)
                refine W.ld (eEI ec (by omega)) ?_
                repeat (first | refine W.ite_t c1 ?_ | refine W.ite_t rfl ?_ | refine W.ite_f rfl ?_)
                refine W.need (ixI (i := x) rfl (by omega)) ?_
                repeat (first | refine W.ite_t c1 ?_ | refine W.ite_t rfl ?_ | refine W.ite_f rfl ?_)
                refine W.ld (eEI (i := x) rfl (by omega)) ?_
                repeat (first | refine W.ite_t c1 ?_ | refine W.ite_t rfl ?_ | refine W.ite_f rfl ?_)
                refine W.pure (ok89 _ _) rfl rfl ?_
                repeat (first | refine W.ite_t c1 ?_ | refine W.ite_t rfl ?_ | refine W.ite_f rfl ?_)
                refine W.ite (fun cc => ?_) (fun cc => ?_)
                · have hx : ¬ g xs (c - 1) < g xs x := of_decide_eq_false (by simpa using cc)
                  refine W.callT [0] (ok90 (n := n) xs c d x hl ⟨hx1, hx2⟩ (by omega) (by omega)) (by decide) rfl rfl rfl rfl ?_
                  rintro v σ ⟨ys, rfl, kS, m, rfl, m1, m2, q1, q2, q3⟩
                  refine W.ret ⟨_, _, _, ?_, Trim.of [0, 1, 2, 3, 8, 9] [0] (by decide) (by intro q hq; obtain rfl := List.mem_singleton.1 hq; exact Nat.zero_lt_one) keepR, m, d, lm, true, true, ys, ?_, rfl, hQ.eq kS h0 hx m1 m2 q1 q3, by omega, rfl⟩
                  · omega
                  · rfl
                · clear c1 cc
                  refine W.callT [0] (ok91 (n := n) xs c d x hl ⟨hx1, hx2⟩ (by omega) (by omega)) (by decide) rfl rfl rfl rfl ?_
                  rintro v σ ⟨ys, rfl, kS, m, r, rfl, m1, m2, q1, q2⟩
                  have hQ' := hQ.inner kS
                  have hly := hQ'.s.len
                  have em : IntKind.i64.wrap ((m : Int) + 1) = ((m + 1 : Nat) : Int) := by rw [wI (by omega)]; rfl
                  refine W.need (by decide) ?_
                  refine W.ite (fun cc => ?_) (fun cc => ?_)
                  · clear cc
                    refine W.callT [0] (ih (m - c) (by omega) ys c m lm rfl (by omega) (by omega) (by omega) (by omega) (fun h0 q w1 w2 => hQ'.p h0 q w1 (by omega))) (by decide) rfl rfl rfl rfl ?_
                    rintro v σ ⟨ws, rfl, kS2, rfl, hso⟩
                    refine W.ret ⟨_, _, _, ?_, Trim.of [0, 1, 2, 3, 8, 9] [0] (by decide) (by intro q hq; obtain rfl := List.mem_singleton.1 hq; exact Nat.zero_lt_one) keepR, m + 1, d, lm, decide (IntKind.i64.wrap ((m : Int) - (c : Int)) ≥ IntKind.i64.wrap ((IntKind.i64.wrap ((d : Int) - (c : Int))).tdiv 8)), r, ws, ?_, rfl, hQ'.left m1 m2 q1 q2 kS2 hso, by omega, rfl⟩
                    · omega
                    · rw [← em]; rfl
                  · clear cc
                    refine W.callT [0] (ih (d - (m + 1)) (by omega) ys (m + 1) d lm rfl (by omega) (by omega) (by omega) (by omega) (fun h0 q w1 w2 => q2 q (by omega) w2)) (by decide) rfl rfl (by rw [← em]; rfl) rfl ?_
                    rintro v σ ⟨ws, rfl, kS2, rfl, hso⟩
                    refine W.ret ⟨_, _, _, ?_, Trim.of [0, 1, 2, 3, 8, 9] [0] (by decide) (by intro q hq; obtain rfl := List.mem_singleton.1 hq; exact Nat.zero_lt_one) keepR, c, m, lm, decide (IntKind.i64.wrap ((d : Int) - (m : Int)) ≥ IntKind.i64.wrap ((IntKind.i64.wrap ((d : Int) - (c : Int))).tdiv 8)), r, ws, ?_, rfl, hQ'.right m1 m2 q1 q2 kS2 hso, by omega, rfl⟩
                    · omega
                    · rfl
              · have c1 : decide ((c : Int) > 0) = false := decide_eq_false (by omega)
                repeat (first | refine W.ite_f c1 ?_ | refine W.ite_t rfl ?_ | refine W.ite_f rfl ?_)
                clear c1
                refine W.callT [0] (ok91 (n := n) xs c d x hl ⟨hx1, hx2⟩ (by omega) (by omega)) (by decide) rfl rfl rfl rfl ?_
                rintro v σ ⟨ys, rfl, kS, m, r, rfl, m1, m2, q1, q2⟩
                have hQ' := hQ.inner kS
                have hly := hQ'.s.len
                have em : IntKind.i64.wrap ((m : Int) + 1) = ((m + 1 : Nat) : Int) := by rw [wI (by omega)]; rfl
                refine W.need (by decide) ?_
                refine W.ite (fun cc => ?_) (fun cc => ?_)
                · clear cc
                  refine W.callT [0] (ih (m - c) (by omega) ys c m lm rfl (by omega) (by omega) (by omega) (by omega) (fun h0 q w1 w2 => hQ'.p h0 q w1 (by omega))) (by decide) rfl rfl rfl rfl ?_
                  rintro v σ ⟨ws, rfl, kS2, rfl, hso⟩
                  refine W.ret ⟨_, _, _, ?_, Trim.of [0, 1, 2, 3, 8, 9] [0] (by decide) (by intro q hq; obtain rfl := List.mem_singleton.1 hq; exact Nat.zero_lt_one) keepR, m + 1, d, lm, decide (IntKind.i64.wrap ((m : Int) - (c : Int)) ≥ IntKind.i64.wrap ((IntKind.i64.wrap ((d : Int) - (c : Int))).tdiv 8)), r, ws, ?_, rfl, hQ'.left m1 m2 q1 q2 kS2 hso, by omega, rfl⟩
                  · omega
                  · rw [← em]; rfl
                · clear cc
                  refine W.callT [0] (ih (d - (m + 1)) (by omega) ys (m + 1) d lm rfl (by omega) (by omega) (by omega) (by omega) (fun h0 q w1 w2 => q2 q (by omega) w2)) (by decide) rfl rfl (by rw [← em]; rfl) rfl ?_
                  rintro v σ ⟨ws, rfl, kS2, rfl, hso⟩
                  refine W.ret ⟨_, _, _, ?_, Trim.of [0, 1, 2, 3, 8, 9] [0] (by decide) (by intro q hq; obtain rfl := List.mem_singleton.1 hq; exact Nat.zero_lt_one) keepR, c, m, lm, decide (IntKind.i64.wrap ((d : Int) - (m : Int)) ≥ IntKind.i64.wrap ((IntKind.i64.wrap ((d : Int) - (c : Int))).tdiv 8)), r, ws, ?_, rfl, hQ'.right m1 m2 q1 q2 kS2 hso, by omega, rfl⟩
                  · omega
                  · rfl
end Go.Proofs.Ytddhlmejaobcgaa.Pi

set_option maxRecDepth 100000
set_option linter.unusedVariables false
set_option linter.unusedSimpArgs false
/- Rows: sorted, copied, made of unlike elements. -/
namespace Go.Proofs.Ytddhlmejaobcgaa.Pi
open Go Go.Am Co
def tysR : Tys := [(3, ⟨.scalar, false, 1, [.int .i64 0], [.int .i64], false, 0⟩), (54, ⟨.slice 56 1 8 false, false, 1, [.slice none 0 0], [.other], false, 0⟩), (70, ⟨.slice 3 1 8 false, false, 1, [.slice none 0 0], [.other], false, 7⟩), (56, ⟨.scalar, false, 1, [.int .u64 0], [.int .u64], false, 0⟩), (26, ⟨.slice 9 1 16 false, false, 1, [.slice none 0 0], [.other], false, 0⟩), (77, ⟨.struct [(0, 56), (1, 3), (2, 70)], true, 3, [.int .u64 0, .int .i64 0, .slice none 0 0], [.int .u64, .int .i64, .other], true, 0⟩), (23, ⟨.slice 38 4 40 false, false, 1, [.slice none 0 0], [.other], false, 0⟩), (101, ⟨.map 3 104, false, 1, [.map none], [.other], false, 0⟩), (38, ⟨.struct [(0, 3), (1, 3), (2, 3), (3, 9)], true, 4, [.int .i64 0, .int .i64 0, .int .i64 0, .string ⟨#[]⟩], [.int .i64, .int .i64, .int .i64, .str], true, 0⟩), (9, ⟨.str, false, 1, [.string ⟨#[]⟩], [.str], false, 0⟩), (55, ⟨.scalar, false, 1, [.int .u64 0], [.int .u64], false, 0⟩), (97, ⟨.struct [(0, 9), (1, 3), (2, 34)], true, 3, [.string ⟨#[]⟩, .int .i64 0, .nilIface], [.str, .int .i64, .other], false, 0⟩), (34, ⟨.iface, false, 1, [.nilIface], [.other], false, 0⟩), (151, ⟨.scalar, false, 1, [.int .u64 0], [.int .u64], false, 0⟩), (28, ⟨.struct [(0, 26), (1, 3), (2, 3), (3, 4)], true, 4, [.slice none 0 0, .int .i64 0, .int .i64 0, .bool false], [.other, .int .i64, .int .i64, .bool], true, 0⟩), (103, ⟨.struct [(0, 101)], true, 1, [.map none], [.other], true, 0⟩), (30, ⟨.array 2 26 1, true, 2, [.slice none 0 0, .slice none 0 0], [.other, .other], true, 0⟩), (25, ⟨.struct [(0, 3), (1, 23)], true, 2, [.int .i64 0, .slice none 0 0], [.int .i64, .other], true, 0⟩), (106, ⟨.struct [(0, 4), (1, 77)], true, 4, [.bool false, .int .u64 0, .int .i64 0, .slice none 0 0], [.bool, .int .u64, .int .i64, .other], true, 0⟩), (57, ⟨.slice 5 1 1 true, false, 1, [.slice none 0 0], [.other], false, 0⟩), (95, ⟨.scalar, false, 1, [.int .u64 0], [.int .u64], false, 0⟩), (42, ⟨.struct [(0, 3), (1, 3), (2, 9)], true, 3, [.int .i64 0, .int .i64 0, .string ⟨#[]⟩], [.int .i64, .int .i64, .str], true, 0⟩), (5, ⟨.scalar, false, 1, [.int .u8 0], [.int .u8], false, 0⟩), (4, ⟨.scalar, false, 1, [.bool false], [.bool], false, 0⟩), (59, ⟨.struct [(0, 57)], true, 1, [.slice none 0 0], [.other], true, 0⟩), (71, ⟨.ptr, false, 1, [.pointer none], [.other], false, 0⟩), (29, ⟨.array 2 28 4, true, 8, [.slice none 0 0, .int .i64 0, .int .i64 0, .bool false, .slice none 0 0, .int .i64 0, .int .i64 0, .bool false], [.other, .int .i64, .int .i64, .bool, .other, .int .i64, .int .i64, .bool], true, 0⟩), (143, ⟨.scalar, false, 1, [.int .u32 0], [.int .u32], false, 0⟩), (116, ⟨.struct [(0, 9), (1, 3), (2, 34)], true, 3, [.string ⟨#[]⟩, .int .i64 0, .nilIface], [.str, .int .i64, .other], false, 0⟩), (114, ⟨.ptr, false, 1, [.pointer none], [.other], false, 0⟩), (136, ⟨.scalar, false, 1, [.int .i64 0], [.int .i64], false, 0⟩), (85, ⟨.scalar, false, 1, [.int .i64 0], [.int .i64], false, 0⟩), (104, ⟨.ptr, false, 1, [.pointer none], [.other], false, 0⟩), (22, ⟨.slice 42 3 32 false, false, 1, [.slice none 0 0], [.other], false, 0⟩)]
theorem tysROk : TysOk Try.prog tysR := TysOk.of (by kernel_rfl)
def od52 : Ords := []
theorem code52 : codeB Try.f52.ntmps od52 (match Try.f52.body with | some c => c | none => .skip) = true := by kernel_rfl
abbrev slZ (zs : List Int) : AV := slF eC zs
theorem ok55 {n : Nat} (hn : n < 50) (zs : List Int) (hl0 : zs.length = n) :
    CallOk Try.prog 55 [rV n] [rB zs] (fun v s => v = .tuple [] ∧ ∃ zs', s = [rB zs'] ∧ zs'.length = n ∧ zs'.Perm zs ∧ So 0 n zs') := by
  refine CallOk.of tysOk mixed od55 Try.func55 rfl rfl code55 ?_
  have kL : Go.Am.Pure Try.prog 62 [.d (qU (IntKind.u64.wrap (n : Int)))] (.d (nI (lenT n))) := by rw [wU (by omega)]; exact ok62 n (by omega)
  refine W.pure kL rfl rfl ?_
  have h64 : lenT n ≤ 64 := by
    unfold lenT
    split
    · omega
    · repeat (first | omega | split)
  refine W.callT [0] (ok69 hn n zs 0 n (lenT n) rfl hl0 (Nat.zero_le _) (Nat.le_refl _) h64 (fun h => by omega)) (by decide) rfl rfl rfl rfl ?_
  rintro v σ ⟨ys, rfl, kS, rfl, hso⟩
  exact W.ret (RetQ.all ⟨rfl, ys, rfl, by rw [kS.len]; exact hl0, kS.perm, hso⟩)
/-! ### of nothing -/
/-- Slices of nothing. -/
def Mt (x : AV) (s : Store) : Prop := (x = .d (.lit (.slice none 0 0)) ∧ s = []) ∨ (x = .row 0 0 0 0 ∧ s = [.row 1 0 []])
theorem ins0 {x : AV} {s : Store} (h : Mt x s) : CallOk Try.prog 83 [x, .d (nI 0), .d (nI 0)] s (fun v σ => v = .tuple [] ∧ σ = s) := by
  rcases h with ⟨rfl, rfl⟩ | ⟨rfl, rfl⟩
  · refine CallOk.of tysOk mixed od83 Try.func83 rfl rfl code83 ?_
    refine W.loop (fun k fr σ => fr = [(2, .d (nI 0)), (6, .d (nI 1))] ∧ σ = []) 0 (Start.of [2, 6] [] (by simp)) ⟨rfl, rfl⟩ ?_
    rintro k fr σ ⟨rfl, rfl⟩
    refine W.ite_f rfl ?_
    exact W.ret (W.ret (RetQ.all ⟨rfl, rfl⟩))
  · refine CallOk.of tysOk mixed od83 Try.func83 rfl rfl code83 ?_
    refine W.loop (fun k fr σ => fr = [(2, .d (nI 0)), (6, .d (nI 1))] ∧ σ = [.row 1 0 []]) 0 (Start.of [2, 6] [] (by simp)) ⟨rfl, rfl⟩ ?_
    rintro k fr σ ⟨rfl, rfl⟩
    refine W.ite_f rfl ?_
    exact W.ret (W.ret (RetQ.all ⟨rfl, rfl⟩))
theorem pdq0 {x : AV} {s : Store} (h : Mt x s) : CallOk Try.prog 69 [x, .d (nI 0), .d (nI 0), .d (nI 0)] s (fun v σ => v = .tuple [] ∧ σ = s) := by
  have ki := ins0 h
  rcases h with ⟨rfl, rfl⟩ | ⟨rfl, rfl⟩
  · refine CallOk.of tysOk mixed od69 Try.func69 rfl rfl code69 ?_
    refine W.loop (fun k fr σ => fr = [(0, .d (.lit (.slice none 0 0))), (1, .d (nI 0)), (2, .d (nI 0))] ∧ σ = []) 0 (Start.of [0, 1, 2] [] (by simp)) ⟨rfl, rfl⟩ ?_
    rintro k fr σ ⟨rfl, rfl⟩
    refine W.ite_t rfl ?_
    refine W.callT [] ki (by decide) rfl rfl rfl rfl ?_
    rintro v σ ⟨rfl, rfl⟩
    exact W.ret (W.ret (RetQ.all ⟨rfl, rfl⟩))
  · refine CallOk.of tysOk mixed od69 Try.func69 rfl rfl code69 ?_
    refine W.loop (fun k fr σ => fr = [(0, .row 0 0 0 0), (1, .d (nI 0)), (2, .d (nI 0))] ∧ σ = [.row 1 0 []]) 0 (Start.of [0, 1, 2] [] (by simp)) ⟨rfl, rfl⟩ ?_
    rintro k fr σ ⟨rfl, rfl⟩
    refine W.ite_t rfl ?_
    refine W.callT [0] ki (by decide) rfl rfl rfl rfl ?_
    rintro v σ ⟨rfl, rfl⟩
    exact W.ret (W.ret (RetQ.all ⟨rfl, rfl⟩))
theorem sort0 {x : AV} {s : Store} (h : Mt x s) : CallOk Try.prog 55 [x] s (fun v σ => v = .tuple [] ∧ σ = s) := by
  have ki := pdq0 h
  have kL : Go.Am.Pure Try.prog 62 [.d (qU (IntKind.u64.wrap 0))] (.d (nI (lenT 0))) := ok62 0 (by decide)
  rcases h with ⟨rfl, rfl⟩ | ⟨rfl, rfl⟩
  · refine CallOk.of tysOk mixed od55 Try.func55 rfl rfl code55 ?_
    refine W.pure kL rfl rfl ?_
    refine W.callT [] ki (by decide) rfl rfl rfl rfl ?_
    rintro v σ ⟨rfl, rfl⟩
    exact W.ret (RetQ.all ⟨rfl, rfl⟩)
  · refine CallOk.of tysOk mixed od55 Try.func55 rfl rfl code55 ?_
    refine W.pure kL rfl rfl ?_
    refine W.callT [0] ki (by decide) rfl rfl rfl rfl ?_
    rintro v σ ⟨rfl, rfl⟩
    exact W.ret (RetQ.all ⟨rfl, rfl⟩)
theorem ok52r (zs : List Int) (h0 : zs ≠ []) (hl : zs.length ≤ 1000000) : CallOk Try.prog 52 [slZ zs] [] (fun v s => v = rV zs.length ∧ s = [rB zs]) := by
  refine CallOk.of tysROk mixed od52 Try.func52 rfl rfl code52 ?_
  cases zs with
  | nil => exact absurd rfl h0
  | cons z r =>
    refine W.ite_f rfl ?_
    refine W.need (by intro h; cases h) ?_
    refine W.ite_f rfl ?_
    refine W.need ⟨rfl, rfl, rfl, Nat.zero_le _, by rw [fl_len]; simp, by simp only [List.length_cons] at *; omega, by simp only [List.length_cons] at *; omega, flat_one (fun x d hd => by obtain rfl := List.mem_singleton.1 hd; rfl) (z :: r)⟩ ?_
    refine W.ite_f (by rw [show (0 + (z :: r).length) * 1 = r.length + 1 by simp]; rfl) ?_
    refine W.ret (RetQ.all ⟨?_, ?_⟩)
    · show AV.row 0 1 0 (0 + (z :: r).length) = _
      rw [Nat.zero_add]
    · rfl
theorem clone0 : CallOk Try.prog 52 [slZ []] [] (fun v s => Mt v s) := by
  refine CallOk.of tysROk mixed od52 Try.func52 rfl rfl code52 ?_
  refine W.ite_t rfl ?_
  refine W.both ?_ ?_
  · refine W.ite_t rfl ?_
    exact W.ret (RetQ.all (.inl ⟨rfl, rfl⟩))
  · refine W.ite_f rfl ?_
    refine W.need ⟨rfl, rfl, rfl, Nat.zero_le _, rfl, by decide, by decide, by intro c hc; cases hc⟩ ?_
    refine W.ite_t rfl ?_
    exact W.ret (RetQ.all (.inr ⟨rfl, rfl⟩))
end Go.Proofs.Ytddhlmejaobcgaa.Pi
