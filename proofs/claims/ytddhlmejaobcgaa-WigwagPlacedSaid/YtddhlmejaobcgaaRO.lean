import Derived.Test.YtddhlmejaobcgaaRHu
set_option maxRecDepth 100000
set_option linter.unusedVariables false
set_option linter.unusedSimpArgs false
/- Who owns a place. -/
namespace Go.Proofs.Ytddhlmejaobcgaa.Pu
open Go Go.Am Co
def od64 : Ords := []
theorem code64 : codeB Try.f64.ntmps od64 (match Try.f64.body with | some c => c | none => .skip) = true := by kernel_rfl
def od44 : Ords := []
theorem code44 : codeB Try.f44.ntmps od44 (match Try.f44.body with | some c => c | none => .skip) = true := by kernel_rfl
def od24 : Ords := []
theorem code24 : codeB Try.f24.ntmps od24 (match Try.f24.body with | some c => c | none => .skip) = true := by kernel_rfl
def od23 : Ords := []
theorem code23 : codeB Try.f23.ntmps od23 (match Try.f23.body with | some c => c | none => .skip) = true := by kernel_rfl
theorem ixD {us : List Int} {X : Int} {i : Nat} (h : X = (i : Int)) (hi : i < us.length) : (0 : Int) ≤ X ∧ X < (us.length : Int) ∧ flat eC us ≠ [] := by
  subst h; exact ix_ok eC_len (by decide) hi
theorem eD {us : List Int} {X : Int} {i : Nat} (h : X = (i : Int)) (hi : i < us.length) : Elem (flat eC us) [.int .u64] (X.toNat * 1) 1 [uD (g us i)] := by
  subst h
  have := eE hi
  rw [Nat.zero_add] at this
  exact this
theorem ok64 (x : Int) : Go.Am.Pure Try.prog 64 [.d (uD x)] (bI false) := by
  refine CallOk.of tysOk mixed od64 Try.func64 rfl rfl code64 ?_
  refine W.ret (RetQ.pure rfl (ret_bI ?_))
  simp
/-- The first place of a rising list that isn't below x. -/
def bsF : List Int → Int → Nat
  | [], _ => 0
  | z :: r, x => if z < x then bsF r x + 1 else 0
theorem g_zero (z : Int) (r : List Int) : g (z :: r) 0 = z := rfl
theorem g_succ (z : Int) (r : List Int) (i : Nat) : g (z :: r) (i + 1) = g r i := rfl
theorem bsF_eq : ∀ {us : List Int} {x : Int} {i : Nat}, i ≤ us.length → (∀ q, q < i → g us q < x) → (i < us.length → x ≤ g us i) → bsF us x = i
  | [], x, i, h1, _, _ => by simp at h1; rw [h1]; rfl
  | z :: r, x, 0, _, _, h3 => by
    have := h3 (by simp)
    rw [g_zero] at this
    unfold bsF
    rw [if_neg (by omega)]
  | z :: r, x, i + 1, h1, h2, h3 => by
    have h0 := h2 0 (by omega)
    rw [g_zero] at h0
    unfold bsF
    rw [if_pos h0, bsF_eq (us := r) (x := x) (i := i) (by simpa using h1) (fun q hq => by have := h2 (q + 1) (by omega); rwa [g_succ] at this) (fun h => by have := h3 (by simpa using h); rwa [g_succ] at this)]
theorem bsF_le : ∀ (us : List Int) (x : Int), bsF us x ≤ us.length
  | [], x => Nat.le_refl _
  | z :: r, x => by
    unfold bsF
    have := bsF_le r x
    split
    · simp only [List.length_cons]; omega
    · exact Nat.zero_le _
theorem bsF_lt : ∀ (us : List Int) (x : Int) (q : Nat), q < bsF us x → g us q < x
  | [], x, q, h => by simp [bsF] at h
  | z :: r, x, q, h => by
    unfold bsF at h
    split at h
    · cases q with
      | zero => rw [g_zero]; assumption
      | succ q => rw [g_succ]; exact bsF_lt r x q (by omega)
    · omega
theorem bsF_ge : ∀ {us : List Int} {x : Int}, bsF us x < us.length → x ≤ g us (bsF us x)
  | [], x, h => by simp [bsF] at h
  | z :: r, x, h => by
    unfold bsF at h ⊢
    by_cases c : z < x
    · rw [if_pos c] at h ⊢
      rw [g_succ]
      exact bsF_ge (by simpa using h)
    · rw [if_neg c]; rw [g_zero]; omega
set_option maxHeartbeats 2000000 in
theorem ok44 (us : List Int) (x : Int) (hl : us.length ≤ 1000000) (hst : St us.length us) : CallOk Try.prog 44 [slZ us, .d (uD x)] [] (fun v s => ∃ b : Bool, v = .tuple [.d (nI (bsF us x)), .d (.lit (.bool b))] ∧ s = []) := by
  refine CallOk.of tysOk mixed od44 Try.func44 rfl rfl code44 ?_
  refine W.loop (fun k fr σ => ∃ i j : Nat, fr = [(0, slZ us), (1, .d (uD x)), (6, .d (nI us.length)), (7, .d (nI i)), (8, .d (nI j))] ∧ σ = [] ∧ i ≤ j ∧ j ≤ us.length ∧ (∀ q, q < i → g us q < x) ∧ (∀ q, j ≤ q → q < us.length → x ≤ g us q) ∧ k = j - i) us.length
    (Start.of [0, 1, 6, 7, 8] [] (by simp)) ⟨0, us.length, rfl, rfl, Nat.zero_le _, Nat.le_refl _, fun q h => by omega, fun q h1 h2 => by omega, rfl⟩ ?_
  rintro k fr σ ⟨i, j, rfl, rfl, hij, hj, hlo, hhi, rfl⟩
  by_cases hlt : i < j
  · obtain ⟨h, hh⟩ : ∃ h, (i + j) / 2 = h := ⟨_, rfl⟩
    have eh : IntKind.i64.wrap ((IntKind.u64.wrap (IntKind.i64.wrap ((i : Int) + (j : Int)))).fdiv (2 ^ min (1 : Int).toNat IntKind.u64.bits)) = (h : Int) := by
      rw [wI (x := (i : Int) + (j : Int)) (by omega), wU (by omega), show min (1 : Int).toNat IntKind.u64.bits = 1 from rfl, Int.fdiv_eq_ediv_of_nonneg _ (by decide), show ((2 : Int) ^ 1) = 2 from rfl, wI (by omega)]
      omega
    have eh1 : IntKind.i64.wrap (IntKind.i64.wrap ((IntKind.u64.wrap (IntKind.i64.wrap ((i : Int) + (j : Int)))).fdiv (2 ^ min (1 : Int).toNat IntKind.u64.bits)) + 1) = ((h + 1 : Nat) : Int) := by rw [eh, wI (by omega)]; rfl
    refine W.ite_t (decide_eq_true (by omega)) ?_
    refine W.need (by decide) ?_
    refine W.need (ixD eh (by omega)) ?_
    refine W.ld (eD eh (by omega)) ?_
    refine W.pure (ok63 _ _) rfl rfl ?_
    refine W.ite (fun c => ?_) (fun c => ?_)
    · have hc : g us h < x := of_decide_eq_true c
      refine W.ret ⟨_, _, _, ?_, Trim.of [0, 1, 6, 7, 8] [] (by decide) (by simp) (by simp), h + 1, j, ?_, rfl, by omega, hj, ?_, hhi, rfl⟩
      · omega
      · rw [← eh1]; rfl
      · intro q hq
        by_cases e : q = h
        · rw [e]; exact hc
        · have := hst q h (by omega) (by omega); omega
    · have hc : ¬ g us h < x := of_decide_eq_false c
      refine W.ret ⟨_, _, _, ?_, Trim.of [0, 1, 6, 7, 8] [] (by decide) (by simp) (by simp), i, h, ?_, rfl, by omega, by omega, hlo, ?_, rfl⟩
      · omega
      · rw [← eh]; rfl
      · intro q h1 h2
        by_cases e : q = h
        · rw [e]; omega
        · have := hst h q (by omega) h2; omega
  · obtain rfl : i = j := by omega
    have hb : bsF us x = i := bsF_eq hj hlo (fun h => hhi i (Nat.le_refl _) h)
    refine W.ite_f (decide_eq_false (by omega)) ?_
    refine W.ret ?_
    rw [hb]
    by_cases hn : i < us.length
    · have c1 : decide ((i : Int) < (us.length : Int)) = true := decide_eq_true (by omega)
      repeat (first | refine W.ite_t c1 ?_ | refine W.ite_t rfl ?_ | refine W.ite_f rfl ?_)
      refine W.need (ixD rfl hn) ?_
      repeat (first | refine W.ite_t c1 ?_ | refine W.ite_t rfl ?_ | refine W.ite_f rfl ?_)
      refine W.ld (eD rfl hn) ?_
      repeat (first | refine W.ite_t c1 ?_ | refine W.ite_t rfl ?_ | refine W.ite_f rfl ?_)
      cases c2 : (g us i == x) with
      | true =>
        repeat (first | refine W.ite_t c1 ?_ | refine W.ite_t c2 ?_ | refine W.ite_t rfl ?_ | refine W.ite_f rfl ?_)
        exact W.ret (RetQ.all ⟨_, rfl, rfl⟩)
      | false =>
        repeat (first | refine W.ite_t c1 ?_ | refine W.ite_f c2 ?_ | refine W.ite_t rfl ?_ | refine W.ite_f rfl ?_)
        refine W.need (ixD rfl hn) ?_
        repeat (first | refine W.ite_t c1 ?_ | refine W.ite_f c2 ?_ | refine W.ite_t rfl ?_ | refine W.ite_f rfl ?_)
        refine W.ld (eD rfl hn) ?_
        repeat (first | refine W.ite_t c1 ?_ | refine W.ite_f c2 ?_ | refine W.ite_t rfl ?_ | refine W.ite_f rfl ?_)
        refine W.pure (ok64 _) rfl rfl ?_
        repeat (first | refine W.ite_t c1 ?_ | refine W.ite_f c2 ?_ | refine W.ite_t rfl ?_ | refine W.ite_f rfl ?_)
        exact W.ret (RetQ.all ⟨_, rfl, rfl⟩)
    · have c1 : decide ((i : Int) < (us.length : Int)) = false := decide_eq_false (by omega)
      repeat (first | refine W.ite_f c1 ?_ | refine W.ite_t rfl ?_ | refine W.ite_f rfl ?_)
      exact W.ret (RetQ.all ⟨_, rfl, rfl⟩)
def ownF (us : List Int) (x : Int) : Int := if us.length = 0 then -1 else ((bsF us x % us.length : Nat) : Int)
theorem ok24 (us : List Int) (x : Int) (hl : us.length ≤ 1000000) (hst : St us.length us) : Go.Am.Pure Try.prog 24 [slZ us, .d (uD x)] (.d (nI (ownF us x))) := by
  refine CallOk.of tysOk mixed od24 Try.func24 rfl rfl code24 ?_
  by_cases h0 : us.length = 0
  · refine W.ite_t (beq_iff_eq.2 (by omega)) ?_
    refine W.ret (RetQ.pure rfl (ret_nI ?_))
    unfold ownF; rw [if_pos h0]
  · refine W.ite_f (beq_eq_false_iff_ne.2 (by omega)) ?_
    refine W.callT [] (ok44 us x hl hst) (by decide) rfl rfl rfl rfl ?_
    rintro v σ ⟨b, rfl, rfl⟩
    refine W.need (by omega) ?_
    refine W.ret (RetQ.pure rfl (ret_nI ?_))
    unfold ownF; rw [if_neg h0, Int.tmod_eq_emod_of_nonneg (by omega)]; rfl
theorem ok23 (a b : Int) : Go.Am.Pure Try.prog 23 [.d (uD a), .d (uD b)] (.d (uD (IntKind.u64.wrap (b - a)))) := by
  refine CallOk.of tysOk mixed od23 Try.func23 rfl rfl code23 ?_
  exact W.ret (RetQ.pure rfl rfl)
/-- The owner is the nearest one. -/
theorem own_min {us : List Int} {x : Int} (hst : St us.length us) (hr : ∀ y ∈ us, 0 ≤ y ∧ y < 18446744073709551616) (hx : 0 ≤ x ∧ x < 18446744073709551616) {k : Nat} (hk : k < us.length) :
    ∃ o : Nat, ownF us x = (o : Int) ∧ o < us.length ∧ ¬ IntKind.u64.wrap (g us k - x) < IntKind.u64.wrap (g us o - x) := by
  have hle := bsF_le us x
  have hlt := bsF_lt us x
  have hge := @bsF_ge us x
  have hrg : ∀ q, q < us.length → 0 ≤ g us q ∧ g us q < 18446744073709551616 := fun q hq => hr _ (g_mem hq)
  have e0 : ownF us x = ((bsF us x % us.length : Nat) : Int) := by unfold ownF; rw [if_neg (by omega)]
  generalize bsF us x = b at *
  by_cases hb : b < us.length
  · refine ⟨b, by rw [e0, Nat.mod_eq_of_lt hb], hb, ?_⟩
    have h1 := hge hb
    have h2 := hrg b hb
    have h3 := hrg k hk
    rw [wU (x := g us b - x) (by omega)]
    by_cases hkb : k < b
    · have h4 := hlt k hkb
      have e : IntKind.u64.wrap (g us k - x) = g us k - x + 18446744073709551616 := by rw [wrapU_mod]; omega
      rw [e]; omega
    · have h4 : g us b ≤ g us k := by
        by_cases e : k = b
        · rw [e]; exact Int.le_refl _
        · exact Int.le_of_lt (hst b k (by omega) hk)
      rw [wU (by omega)]; omega
  · have hbn : b = us.length := by omega
    refine ⟨0, by rw [e0, hbn, Nat.mod_self], by omega, ?_⟩
    have h1 := hlt 0 (by omega)
    have h2 := hlt k (by omega)
    have h3 := hrg 0 (by omega)
    have h4 := hrg k hk
    have h5 : g us 0 ≤ g us k := by
      by_cases e : k = 0
      · rw [e]; exact Int.le_refl _
      · exact Int.le_of_lt (hst 0 k (by omega) hk)
    have e1 : IntKind.u64.wrap (g us k - x) = g us k - x + 18446744073709551616 := by rw [wrapU_mod]; omega
    have e2 : IntKind.u64.wrap (g us 0 - x) = g us 0 - x + 18446744073709551616 := by rw [wrapU_mod]; omega
    rw [e1, e2]; omega
end Go.Proofs.Ytddhlmejaobcgaa.Pu
