import Derived.Test.YtbjjimllnffcpaaGreatDoorGG
import Derived.Test.YtbjjimllnffcpaaGreatDoorVV
import Derived.Test.YtbjjimllnffcpaaGreatDoorDD

set_option maxRecDepth 100000
set_option linter.unusedVariables false
set_option linter.unusedSimpArgs false
/- The reference of package group: names. -/
namespace Go.Proofs.YtbjjimllnffcpaaGreatDoor.Gr
open Go Go.Am Va
def od50 : Ords := []
theorem code50 : codeB Tryz.f50.ntmps od50 (match Tryz.f50.body with | some c => c | none => .skip) = true := by kernel_rfl
def od21 : Ords := [(1, [0, 1, 2, 3, 7, 8, 4, 5, 6, 9, 10, 11])]
theorem code21 : codeB Tryz.f21.ntmps od21 (match Tryz.f21.body with | some c => c | none => .skip) = true := by kernel_rfl
def od29 : Ords := []
theorem code29 : codeB Tryz.f29.ntmps od29 (match Tryz.f29.body with | some c => c | none => .skip) = true := by kernel_rfl
/-! ### numbers -/
def digG : Nat → Bool → Nat → ByteArray → ByteArray
  | 0, _, _, s => s
  | f + 1, b, u, s => if b = true ∨ 0 < u then digG f false (u / 10) (txt [UInt8.ofNat (48 + u % 10)] ++ s) else s
def digI (n : Int) : ByteArray := if n < 0 then txt [45] ++ digG 20 true n.natAbs (txt []) else digG 20 true n.natAbs (txt [])
theorem u64mod (x : Int) : IntKind.u64.wrap x = x % 18446744073709551616 := by
  rw [show IntKind.u64.wrap x = (if (false && decide (x % (2 ^ 64 : Int) ≥ (2 ^ 63 : Int))) = true then x % (2 ^ 64 : Int) - (2 ^ 64 : Int) else x % (2 ^ 64 : Int)) from rfl]
  rw [if_neg (by simp)]
  have e1 : (2 : Int) ^ 64 = 18446744073709551616 := by decide
  rw [e1]
theorem u8mod (x : Int) : IntKind.u8.wrap x = x % 256 := by
  rw [show IntKind.u8.wrap x = (if (false && decide (x % (2 ^ 8 : Int) ≥ (2 ^ 7 : Int))) = true then x % (2 ^ 8 : Int) - (2 ^ 8 : Int) else x % (2 ^ 8 : Int)) from rfl]
  rw [if_neg (by simp)]
  have e1 : (2 : Int) ^ 8 = 256 := by decide
  rw [e1]
theorem bytesOf1 (k : Nat) (h : k < 256) : bytesOf [.lit (.int .u8 (k : Nat))] = txt [UInt8.ofNat k] := by
  unfold bytesOf txt
  simp [D.toI]
theorem one_size (b : UInt8) : (txt [b]).size = 1 := rfl
set_option maxHeartbeats 4000000 in
theorem ok50 (n : Int) (h0 : -9223372036854775808 ≤ n) (h1 : n ≤ 9223372036854775807) : Go.Am.Pure Tryz.prog 50 [.d (nI n)] (.d (sD (digI n))) := by
  refine CallOk.of tysOk mixed od50 Tryz.func50 rfl rfl code50 ?_
  by_cases hn : n < 0
  · have c0 : decide (n < 0) = true := decide_eq_true hn
    have eu : IntKind.u64.wrap (0 - IntKind.u64.wrap n) = (n.natAbs : Int) := by rw [u64mod, u64mod]; omega
    refine W.ite_t c0 ?_
    refine W.loop (fun k fr σ => ∃ (i u : Nat) (s : ByteArray), fr = [(0, .d (nI n)), (3, .d (uI u)), (4, .d (sD s)), (5, .d (nI i))] ∧ σ = [] ∧ i ≤ 20 ∧ s.size ≤ i ∧ u < 18446744073709551616 ∧ digG (20 - i) (decide (i = 0)) u s = digG 20 true n.natAbs (txt []) ∧ k = 20 - i) 20
      (Start.of [0, 3, 4, 5] [] (by simp)) ⟨0, n.natAbs, txt [], by rw [← eu]; rfl, rfl, by omega, by decide, by omega, rfl, rfl⟩ ?_
    rintro k fr σ ⟨i, u, s, rfl, rfl, hi, hs, hu, hd, rfl⟩
    have stop : i = 20 ∨ (i ≠ 0 ∧ u = 0) → digG 20 true n.natAbs (txt []) = s := fun h => by
      rw [← hd]
      rcases h with rfl | ⟨h, rfl⟩
      · rfl
      · cases h20 : 20 - i with
        | zero => rfl
        | succ f => rw [digG, if_neg (by simp [h])]
    have c2 : ((i : Int) == 0) = decide (i = 0) := by rw [beq_int]; by_cases h : i = 0 <;> simp [h]
    by_cases h20 : i < 20
    · have c1 : decide ((i : Int) < 20) = true := decide_eq_true (by omega)
      by_cases hgo : i = 0 ∨ 0 < u
      · have step : digG (20 - (i + 1)) (decide (i + 1 = 0)) (u / 10) (txt [UInt8.ofNat (48 + u % 10)] ++ s) = digG 20 true n.natAbs (txt []) := by
          rw [← hd]
          obtain ⟨f, hf⟩ : ∃ f, 20 - i = f + 1 := ⟨19 - i, by omega⟩
          rw [show 20 - (i + 1) = f from by omega, hf, digG, if_pos (by simpa using hgo)]
          simp
        have e1 : (u : Int).tmod 10 = ((u % 10 : Nat) : Int) := by rw [Int.tmod_eq_emod_of_nonneg (by omega)]; rfl
        have e2 : IntKind.u64.wrap (48 + (u : Int).tmod 10) = ((48 + u % 10 : Nat) : Int) := by rw [e1, u64mod]; omega
        have e3 : IntKind.u8.wrap (IntKind.u64.wrap (48 + (u : Int).tmod 10)) = ((48 + u % 10 : Nat) : Int) := by rw [e2, u8mod]; omega
        have e4 : IntKind.u64.wrap ((u : Int).tdiv 10) = ((u / 10 : Nat) : Int) := by rw [Int.tdiv_eq_ediv_of_nonneg (by omega), u64mod]; omega
        have g1 : IntKind.i64.wrap ((i : Int) + 1) = ((i + 1 : Nat) : Int) := by rw [wrap64 (by omega) (by omega)]; rfl
        have hby : ∀ c ∈ [D.lit (.int .u8 (IntKind.u8.wrap (IntKind.u64.wrap (48 + (u : Int).tmod 10))))], isByte c := fun c hc => by
          obtain rfl := List.mem_singleton.1 hc
          rw [e3]
          exact ⟨rfl, by simp only [D.toI]; omega, by simp only [D.toI]; omega⟩
        have hbo : bytesOf [D.lit (.int .u8 (IntKind.u8.wrap (IntKind.u64.wrap (48 + (u : Int).tmod 10))))] = txt [UInt8.ofNat (48 + u % 10)] := by
          rw [e3]; exact bytesOf1 _ (by omega)
        by_cases hz : i = 0
        · have c3 : ((i : Int) == 0) = true := by rw [c2]; exact decide_eq_true hz
          repeat (first | refine W.ite_t rfl ?_ | refine W.ite_f rfl ?_ | refine W.ite_t c1 ?_ | refine W.ite_t c3 ?_)
          refine W.need (by decide) ?_
          refine W.alt_l ?_
          refine W.need ⟨rfl, rfl, hby⟩ ?_
          refine W.need (by show (((bytesOf [D.lit (.int .u8 (IntKind.u8.wrap (IntKind.u64.wrap (48 + (u : Int).tmod 10))))]).size + s.size : Nat) : Int) ≤ 9223372036854775807; rw [hbo, one_size]; omega) ?_
          refine W.need (by decide) ?_
          refine W.ret ⟨_, _, _, ?_, Trim.of [0, 3, 4, 5] [] (by decide) (by simp) (by simp), i + 1, u / 10, txt [UInt8.ofNat (48 + u % 10)] ++ s, ?_, rfl, by omega, by rw [ByteArray.size_append, one_size]; omega, by omega, step, rfl⟩
          · omega
          · rw [← e4, ← g1, ← hbo]; rfl
        · have c3 : ((i : Int) == 0) = false := by rw [c2]; exact decide_eq_false hz
          have c4 : decide ((u : Int) > 0) = true := decide_eq_true (by omega)
          repeat (first | refine W.ite_t rfl ?_ | refine W.ite_f rfl ?_ | refine W.ite_t c1 ?_ | refine W.ite_f c3 ?_ | refine W.ite_t c4 ?_)
          refine W.need (by decide) ?_
          refine W.alt_l ?_
          refine W.need ⟨rfl, rfl, hby⟩ ?_
          refine W.need (by show (((bytesOf [D.lit (.int .u8 (IntKind.u8.wrap (IntKind.u64.wrap (48 + (u : Int).tmod 10))))]).size + s.size : Nat) : Int) ≤ 9223372036854775807; rw [hbo, one_size]; omega) ?_
          refine W.need (by decide) ?_
          refine W.ret ⟨_, _, _, ?_, Trim.of [0, 3, 4, 5] [] (by decide) (by simp) (by simp), i + 1, u / 10, txt [UInt8.ofNat (48 + u % 10)] ++ s, ?_, rfl, by omega, by rw [ByteArray.size_append, one_size]; omega, by omega, step, rfl⟩
          · omega
          · rw [← e4, ← g1, ← hbo]; rfl
      · have c3 : ((i : Int) == 0) = false := by rw [c2]; exact decide_eq_false (by omega)
        have c4 : decide ((u : Int) > 0) = false := decide_eq_false (by omega)
        repeat (first | refine W.ite_t rfl ?_ | refine W.ite_f rfl ?_ | refine W.ite_t c1 ?_ | refine W.ite_f c3 ?_ | refine W.ite_f c4 ?_)
        refine W.ret ?_
        refine W.ite_t c0 ?_
        refine W.need (by show ((1 + s.size : Nat) : Int) ≤ 9223372036854775807; omega) ?_
        refine W.ret (RetQ.pure rfl (ret_sD ?_))
        unfold digI
        rw [if_pos hn, stop (by omega)]
        rfl
    · have c1 : decide ((i : Int) < 20) = false := decide_eq_false (by omega)
      repeat (first | refine W.ite_t rfl ?_ | refine W.ite_f rfl ?_ | refine W.ite_f c1 ?_)
      refine W.ret ?_
      refine W.ite_t c0 ?_
      refine W.need (by show ((1 + s.size : Nat) : Int) ≤ 9223372036854775807; omega) ?_
      refine W.ret (RetQ.pure rfl (ret_sD ?_))
      unfold digI
      rw [if_pos hn, stop (by omega)]
      rfl
  · have c0 : decide (n < 0) = false := decide_eq_false hn
    have eu : IntKind.u64.wrap n = (n.natAbs : Int) := by rw [u64mod]; omega
    refine W.ite_f c0 ?_
    refine W.loop (fun k fr σ => ∃ (i u : Nat) (s : ByteArray), fr = [(0, .d (nI n)), (3, .d (uI u)), (4, .d (sD s)), (5, .d (nI i))] ∧ σ = [] ∧ i ≤ 20 ∧ s.size ≤ i ∧ u < 18446744073709551616 ∧ digG (20 - i) (decide (i = 0)) u s = digG 20 true n.natAbs (txt []) ∧ k = 20 - i) 20
      (Start.of [0, 3, 4, 5] [] (by simp)) ⟨0, n.natAbs, txt [], by rw [← eu]; rfl, rfl, by omega, by decide, by omega, rfl, rfl⟩ ?_
    rintro k fr σ ⟨i, u, s, rfl, rfl, hi, hs, hu, hd, rfl⟩
    have stop : i = 20 ∨ (i ≠ 0 ∧ u = 0) → digG 20 true n.natAbs (txt []) = s := fun h => by
      rw [← hd]
      rcases h with rfl | ⟨h, rfl⟩
      · rfl
      · cases h20 : 20 - i with
        | zero => rfl
        | succ f => rw [digG, if_neg (by simp [h])]
    have c2 : ((i : Int) == 0) = decide (i = 0) := by rw [beq_int]; by_cases h : i = 0 <;> simp [h]
    by_cases h20 : i < 20
    · have c1 : decide ((i : Int) < 20) = true := decide_eq_true (by omega)
      by_cases hgo : i = 0 ∨ 0 < u
      · have step : digG (20 - (i + 1)) (decide (i + 1 = 0)) (u / 10) (txt [UInt8.ofNat (48 + u % 10)] ++ s) = digG 20 true n.natAbs (txt []) := by
          rw [← hd]
          obtain ⟨f, hf⟩ : ∃ f, 20 - i = f + 1 := ⟨19 - i, by omega⟩
          rw [show 20 - (i + 1) = f from by omega, hf, digG, if_pos (by simpa using hgo)]
          simp
        have e1 : (u : Int).tmod 10 = ((u % 10 : Nat) : Int) := by rw [Int.tmod_eq_emod_of_nonneg (by omega)]; rfl
        have e2 : IntKind.u64.wrap (48 + (u : Int).tmod 10) = ((48 + u % 10 : Nat) : Int) := by rw [e1, u64mod]; omega
        have e3 : IntKind.u8.wrap (IntKind.u64.wrap (48 + (u : Int).tmod 10)) = ((48 + u % 10 : Nat) : Int) := by rw [e2, u8mod]; omega
        have e4 : IntKind.u64.wrap ((u : Int).tdiv 10) = ((u / 10 : Nat) : Int) := by rw [Int.tdiv_eq_ediv_of_nonneg (by omega), u64mod]; omega
        have g1 : IntKind.i64.wrap ((i : Int) + 1) = ((i + 1 : Nat) : Int) := by rw [wrap64 (by omega) (by omega)]; rfl
        have hby : ∀ c ∈ [D.lit (.int .u8 (IntKind.u8.wrap (IntKind.u64.wrap (48 + (u : Int).tmod 10))))], isByte c := fun c hc => by
          obtain rfl := List.mem_singleton.1 hc
          rw [e3]
          exact ⟨rfl, by simp only [D.toI]; omega, by simp only [D.toI]; omega⟩
        have hbo : bytesOf [D.lit (.int .u8 (IntKind.u8.wrap (IntKind.u64.wrap (48 + (u : Int).tmod 10))))] = txt [UInt8.ofNat (48 + u % 10)] := by
          rw [e3]; exact bytesOf1 _ (by omega)
        by_cases hz : i = 0
        · have c3 : ((i : Int) == 0) = true := by rw [c2]; exact decide_eq_true hz
          repeat (first | refine W.ite_t rfl ?_ | refine W.ite_f rfl ?_ | refine W.ite_t c1 ?_ | refine W.ite_t c3 ?_)
          refine W.need (by decide) ?_
          refine W.alt_l ?_
          refine W.need ⟨rfl, rfl, hby⟩ ?_
          refine W.need (by show (((bytesOf [D.lit (.int .u8 (IntKind.u8.wrap (IntKind.u64.wrap (48 + (u : Int).tmod 10))))]).size + s.size : Nat) : Int) ≤ 9223372036854775807; rw [hbo, one_size]; omega) ?_
          refine W.need (by decide) ?_
          refine W.ret ⟨_, _, _, ?_, Trim.of [0, 3, 4, 5] [] (by decide) (by simp) (by simp), i + 1, u / 10, txt [UInt8.ofNat (48 + u % 10)] ++ s, ?_, rfl, by omega, by rw [ByteArray.size_append, one_size]; omega, by omega, step, rfl⟩
          · omega
          · rw [← e4, ← g1, ← hbo]; rfl
        · have c3 : ((i : Int) == 0) = false := by rw [c2]; exact decide_eq_false hz
          have c4 : decide ((u : Int) > 0) = true := decide_eq_true (by omega)
          repeat (first | refine W.ite_t rfl ?_ | refine W.ite_f rfl ?_ | refine W.ite_t c1 ?_ | refine W.ite_f c3 ?_ | refine W.ite_t c4 ?_)
          refine W.need (by decide) ?_
          refine W.alt_l ?_
          refine W.need ⟨rfl, rfl, hby⟩ ?_
          refine W.need (by show (((bytesOf [D.lit (.int .u8 (IntKind.u8.wrap (IntKind.u64.wrap (48 + (u : Int).tmod 10))))]).size + s.size : Nat) : Int) ≤ 9223372036854775807; rw [hbo, one_size]; omega) ?_
          refine W.need (by decide) ?_
          refine W.ret ⟨_, _, _, ?_, Trim.of [0, 3, 4, 5] [] (by decide) (by simp) (by simp), i + 1, u / 10, txt [UInt8.ofNat (48 + u % 10)] ++ s, ?_, rfl, by omega, by rw [ByteArray.size_append, one_size]; omega, by omega, step, rfl⟩
          · omega
          · rw [← e4, ← g1, ← hbo]; rfl
      · have c3 : ((i : Int) == 0) = false := by rw [c2]; exact decide_eq_false (by omega)
        have c4 : decide ((u : Int) > 0) = false := decide_eq_false (by omega)
        repeat (first | refine W.ite_t rfl ?_ | refine W.ite_f rfl ?_ | refine W.ite_t c1 ?_ | refine W.ite_f c3 ?_ | refine W.ite_f c4 ?_)
        refine W.ret ?_
        refine W.ite_f c0 ?_
        refine W.ret (RetQ.pure rfl (ret_sD ?_))
        unfold digI
        rw [if_neg hn, stop (by omega)]
    · have c1 : decide ((i : Int) < 20) = false := decide_eq_false (by omega)
      repeat (first | refine W.ite_t rfl ?_ | refine W.ite_f rfl ?_ | refine W.ite_f c1 ?_)
      refine W.ret ?_
      refine W.ite_f c0 ?_
      refine W.ret (RetQ.pure rfl (ret_sD ?_))
      unfold digI
      rw [if_neg hn, stop (by omega)]
theorem digI_small : ∀ n : Nat, n < 1000 → digI (n : Int) = numS n := by decide +kernel
theorem ok21 (a : ByteArray) (l i : Nat) (ha : a.size ≤ 1000) (hl : l < 1000) (hi : i < 1000) : Go.Am.Pure Tryz.prog 21 [.d (sD a), Dy.iv l i] (.d (sD (nameS a l i))) := by
  refine CallOk.of tysOk mixed od21 Tryz.func21 rfl rfl code21 ?_
  have s1 := numS_size l
  have s2 := numS_size i
  have k1 := ok50 (l : Int) (by omega) (by omega)
  have k2 := ok50 (i : Int) (by omega) (by omega)
  rw [digI_small l hl] at k1
  rw [digI_small i hi] at k2
  have e1 : (a ++ dotS).size = a.size + 1 := by rw [ByteArray.size_append]; rfl
  have e2 : (a ++ dotS ++ numS l).size = a.size + 1 + (numS l).size := by rw [ByteArray.size_append, e1]
  have e3 : (a ++ dotS ++ numS l ++ dotS).size = a.size + 1 + (numS l).size + 1 := by rw [ByteArray.size_append, e2]; rfl
  refine W.need (by show ((a.size + 1 : Nat) : Int) ≤ 9223372036854775807; omega) ?_
  refine W.pure k1 rfl rfl ?_
  refine W.need (by show (((a ++ dotS).size + (numS l).size : Nat) : Int) ≤ 9223372036854775807; rw [e1]; omega) ?_
  refine W.need (by show (((a ++ dotS ++ numS l).size + 1 : Nat) : Int) ≤ 9223372036854775807; rw [e2]; omega) ?_
  refine W.pure k2 rfl rfl ?_
  refine W.need (by show (((a ++ dotS ++ numS l ++ dotS).size + (numS i).size : Nat) : Int) ≤ 9223372036854775807; rw [e3]; omega) ?_
  exact W.ret (RetQ.pure rfl rfl)
/-- The code of what is wrong. -/
def geC : GE → Int
  | .ok => 0
  | .arg => 1
  | .val _ => 3
theorem ok29 (s : List Att) (hs : ∀ a ∈ s, a.nm.size ≤ 1000000) (n : Int) : Go.Am.Pure Tryz.prog 29 [slF atC s, .d (nI n)] (.d (nI (geC (checkE s n)))) := by
  refine CallOk.of tysOk mixed od29 Tryz.func29 rfl rfl code29 ?_
  by_cases h0 : n < 0
  · have c0 : decide (n < 0) = true := decide_eq_true h0
    repeat (first | refine W.ite_t rfl ?_ | refine W.ite_f rfl ?_ | refine W.ite_t c0 ?_)
    refine W.ret (RetQ.pure rfl ?_)
    rw [checkE, if_pos (.inl h0)]
    rfl
  · have c0 : decide (n < 0) = false := decide_eq_false h0
    by_cases h8 : n > 8
    · have c8 : decide (n > 8) = true := decide_eq_true h8
      repeat (first | refine W.ite_t rfl ?_ | refine W.ite_f rfl ?_ | refine W.ite_f c0 ?_ | refine W.ite_t c8 ?_)
      refine W.ret (RetQ.pure rfl ?_)
      rw [checkE, if_pos (.inr h8)]
      rfl
    · have c8 : decide (n > 8) = false := decide_eq_false h8
      repeat (first | refine W.ite_t rfl ?_ | refine W.ite_f rfl ?_ | refine W.ite_f c0 ?_ | refine W.ite_f c8 ?_)
      refine W.pure (ok62 s hs) rfl rfl ?_
      have e : checkE s n = ofO (chkErr s) := by rw [checkE, if_neg (by omega)]
      rw [e]
      cases hc : chkErr s with
      | none =>
        repeat (first | refine W.ite_t rfl ?_ | refine W.ite_f rfl ?_)
        exact W.ret (RetQ.pure rfl rfl)
      | some i =>
        have c1 : decide ((i : Int) ≥ 0) = true := decide_eq_true (by omega)
        repeat (first | refine W.ite_t rfl ?_ | refine W.ite_f rfl ?_ | refine W.ite_t c1 ?_)
        exact W.ret (RetQ.pure rfl rfl)
end Go.Proofs.YtbjjimllnffcpaaGreatDoor.Gr


set_option maxRecDepth 100000
set_option linter.unusedVariables false
set_option linter.unusedSimpArgs false
/- The reference of package group: the predicate that is chosen. -/
namespace Go.Proofs.YtbjjimllnffcpaaGreatDoor.Gr
open Go Go.Am Va
def od9 : Ords := [(10, [0, 1, 2, 3, 4, 5, 6, 10, 11, 12, 13, 14, 7, 8, 9, 1015, 16, 17, 18, 19, 20]), (11, [0, 1, 2, 3, 4, 5, 6, 10, 11, 12, 13, 14, 7, 8, 9, 1015, 16, 17, 18, 19, 20])]
theorem code9 : codeB Tryz.f9.ntmps od9 (match Tryz.f9.body with | some c => c | none => .skip) = true := by kernel_rfl
/-- What holds of the best so far, in the reference. -/
def RefInv (s : List Att) (f : List Prd) (n : Int) (i b : Nat) (q : Prd) : Prop :=
  b ≤ i ∧ f[b]? = some q ∧ ∀ (k : Nat) (q' : Prd), k < i → f[k]? = some q' → wid s q n ≤ wid s q' n ∧ (k < b → wid s q n < wid s q' n)
theorem refInv_take {s : List Att} {f : List Prd} {n : Int} {i b : Nat} {q p : Prd} (h : RefInv s f n i b q) (hp : f[i]? = some p) (hlt : wid s p n < wid s q n) : RefInv s f n (i + 1) i p := by
  refine ⟨by omega, hp, fun k q' hk hq' => ?_⟩
  rcases Nat.lt_or_ge k i with hki | hki
  · have := (h.2.2 k q' hki hq').1
    omega
  · obtain rfl : k = i := by omega
    rw [hp] at hq'
    obtain rfl := Option.some.inj hq'
    exact ⟨Int.le_refl _, fun h => absurd h (by omega)⟩
theorem refInv_keep {s : List Att} {f : List Prd} {n : Int} {i b : Nat} {q p : Prd} (h : RefInv s f n i b q) (hp : f[i]? = some p) (hlt : ¬ wid s p n < wid s q n) : RefInv s f n (i + 1) b q := by
  refine ⟨by have := h.1; omega, h.2.1, fun k q' hk hq' => ?_⟩
  rcases Nat.lt_or_ge k i with hki | hki
  · exact h.2.2 k q' hki hq'
  · obtain rfl : k = i := by omega
    rw [hp] at hq'
    obtain rfl := Option.some.inj hq'
    exact ⟨by omega, fun h' => absurd h' (by have := h.1; omega)⟩
theorem refInv_best {s : List Att} {f : List Prd} {n : Int} (hf : Fine s f n) {b : Nat} {q : Prd} (h : RefInv s f n f.length b q) : bestI s f n = b := by
  obtain ⟨j, p, h1, h2, h3, h4⟩ := hf.best
  have hbl := (List.getElem?_eq_some_iff.1 h.2.1).1
  have e1 := h4 b q h.2.1
  have e2 := h.2.2 j p h2 h3
  rw [h1]
  omega
set_option maxHeartbeats 4000000 in
theorem ok9 (s : List Att) (hs : s.length ≤ 1000000) (hnm : ∀ a ∈ s, a.nm.size ≤ 1000000) (f : List Prd) (hfs : ∀ p ∈ f, p.str.size ≤ 1000000) (n : Int) :
    Go.Am.Pure Tryz.prog 9 [slF atC s, slF prC f, .d (nI n)] (.tuple [.d (nI (chooseI s f n)), .d (nI (geC (chooseE s f n)))]) := by
  refine CallOk.of tysOk mixed od9 Tryz.func9 rfl rfl code9 ?_
  have k1 := ok29 s hnm n
  cases hc : checkE s n with
  | arg =>
    rw [hc] at k1
    have e1 : chooseE s f n = .arg := by unfold chooseE; rw [hc]
    have e2 : chooseI s f n = -1 := by unfold chooseI; rw [e1]
    refine W.pure k1 rfl rfl ?_
    repeat (first | refine W.ite_t rfl ?_ | refine W.ite_f rfl ?_)
    rw [e1, e2]
    exact W.ret (RetQ.pure rfl rfl)
  | val i =>
    rw [hc] at k1
    have e1 : chooseE s f n = .val i := by unfold chooseE; rw [hc]
    have e2 : chooseI s f n = -1 := by unfold chooseI; rw [e1]
    refine W.pure k1 rfl rfl ?_
    repeat (first | refine W.ite_t rfl ?_ | refine W.ite_f rfl ?_)
    rw [e1, e2]
    exact W.ret (RetQ.pure rfl rfl)
  | ok =>
  rw [hc] at k1
  refine W.pure k1 rfl rfl ?_
  repeat (first | refine W.ite_t rfl ?_ | refine W.ite_f rfl ?_)
  have k2 := ok30 s (by omega) f hfs
  cases hf : fltErr s f with
  | some i =>
    rw [hf] at k2
    have e1 : chooseE s f n = .val i := by unfold chooseE; rw [hc, hf]; rfl
    have e2 : chooseI s f n = -1 := by unfold chooseI; rw [e1]
    have c1 : decide ((i : Int) ≥ 0) = true := decide_eq_true (by omega)
    refine W.pure k2 rfl rfl ?_
    repeat (first | refine W.ite_t rfl ?_ | refine W.ite_f rfl ?_ | refine W.ite_t c1 ?_)
    rw [e1, e2]
    exact W.ret (RetQ.pure rfl rfl)
  | none =>
  rw [hf] at k2
  refine W.pure k2 rfl rfl ?_
  repeat (first | refine W.ite_t rfl ?_ | refine W.ite_f rfl ?_)
  have e1 : chooseE s f n = .ok := by unfold chooseE; rw [hc, hf]; rfl
  have hfine := chooseE_ok.1 e1
  have e2 : chooseI s f n = bestI s f n := by unfold chooseI; rw [e1]
  rw [e1, e2]
  have hf4 := (fltErr_none hf).2.1
  have hf1 := (fltErr_none hf).1
  have hn0 := hfine.n0
  have hn8 := hfine.n8
  clear k1 k2 hc hf e1 e2
  obtain ⟨q0, hq0⟩ : ∃ x, f[0]? = some x := ⟨_, List.getElem?_eq_getElem (by omega)⟩
  refine W.loop (fun k fr σ => ∃ (i b : Nat) (p : Prd), fr = [(0, slF atC s), (1, slF prC f), (2, .d (nI n)), (9, .d (nI b)), (30, .d (nI f.length)), (31, .d (nI i))] ∧ σ = [] ∧ i ≤ f.length ∧ RefInv s f n i b p ∧ k = f.length - i) f.length
    (Start.of [0, 1, 2, 9, 30, 31] [] (by simp)) ⟨0, 0, q0, rfl, rfl, by omega, ⟨by omega, hq0, fun k q' hk => absurd hk (by omega)⟩, rfl⟩ ?_
  rintro k fr σ ⟨i, b, p, rfl, rfl, hi, hinv, rfl⟩
  refine W.ite (fun c1 => ?_) (fun c1 => ?_)
  · have hil : i < f.length := by have := of_decide_eq_true c1; omega
    obtain ⟨q, hq⟩ : ∃ x, f[i]? = some x := ⟨_, List.getElem?_eq_getElem hil⟩
    have hqm := List.mem_of_getElem? hq
    have hp := hinv.2.1
    have hpm := List.mem_of_getElem? hp
    have hbl := (List.getElem?_eq_some_iff.1 hp).1
    obtain ⟨k, a, hk, ha, hat, hga, hpo, hsm⟩ := hfine.prd hqm
    obtain ⟨k', a', hk', ha', hat', hga', hpo', hsm'⟩ := hfine.prd hpm
    have hkl := (List.getElem?_eq_some_iff.1 ha).1
    have hkl' := (List.getElem?_eq_some_iff.1 ha').1
    have hwd := hfine.wd hqm
    have hwd' := hfine.wd hpm
    have hrg := hfine.rg hqm
    have hrg' := hfine.rg hpm
    have hp2 := pow2_le (k := n.toNat) (by omega)
    have hrq : rgQ s q n = rgA a q n := by unfold rgQ; rw [hat]
    have hrp : rgQ s p n = rgA a' p n := by unfold rgQ; rw [hat']
    have kr : Go.Am.Pure Tryz.prog 31 [.d (.agg (atC a)), .d (.agg (prC q)), .d (nI n)] (Dy.pairI (rgA a q n)) := Dy.ok31 a.nm a.k a.mn a.mx q.nm q.o q.lo q.hi q.str n hsm
    have kr' : Go.Am.Pure Tryz.prog 31 [.d (.agg (atC a')), .d (.agg (prC p)), .d (nI n)] (Dy.pairI (rgA a' p n)) := Dy.ok31 a'.nm a'.k a'.mn a'.mx p.nm p.o p.lo p.hi p.str n hsm'
    refine W.need (ix_ok prC_len (by decide) hil) ?_
    refine W.ld (prF0 hq) ?_
    refine W.need (ix_ok prC_len (by decide) hil) ?_
    refine W.ld (prE hq) ?_
    refine W.pure (hk ▸ ok32 s (by omega) q.nm) rfl rfl ?_
    refine W.need (ix_ok atC_len (by decide) hkl) ?_
    refine W.ld (atE ha) ?_
    refine W.pure kr rfl rfl ?_
    refine W.need (ix_ok prC_len (by decide) hbl) ?_
    refine W.ld (prF0 hp) ?_
    refine W.need (ix_ok prC_len (by decide) hbl) ?_
    refine W.ld (prE hp) ?_
    refine W.pure (hk' ▸ ok32 s (by omega) p.nm) rfl rfl ?_
    refine W.need (ix_ok atC_len (by decide) hkl') ?_
    refine W.ld (atE ha') ?_
    refine W.pure kr' rfl rfl ?_
    have ew : IntKind.i64.wrap ((rgA a q n).2 - (rgA a q n).1) = wid s q n := by
      rw [wrap64 (by rw [← hrq]; omega) (by rw [← hrq]; omega), ← hrq]
      rfl
    have ew' : IntKind.i64.wrap ((rgA a' p n).2 - (rgA a' p n).1) = wid s p n := by
      rw [wrap64 (by rw [← hrp]; omega) (by rw [← hrp]; omega), ← hrp]
      rfl
    have g1 : IntKind.i64.wrap ((i : Int) + 1) = ((i + 1 : Nat) : Int) := by rw [wrap64 (by omega) (by omega)]; rfl
    by_cases d2 : wid s q n < wid s p n
    · have c3 : decide (IntKind.i64.wrap ((rgA a q n).2 - (rgA a q n).1) < IntKind.i64.wrap ((rgA a' p n).2 - (rgA a' p n).1)) = true := by rw [ew, ew']; exact decide_eq_true d2
      refine W.ite_t c3 ?_
      refine W.ret ⟨_, _, _, ?_, Trim.of [0, 1, 2, 9, 30, 31] [] (by decide) (by simp) (by simp), i + 1, i, q, ?_, rfl, by omega, refInv_take hinv hq d2, rfl⟩
      · omega
      · rw [← g1]; rfl
    · have c3 : decide (IntKind.i64.wrap ((rgA a q n).2 - (rgA a q n).1) < IntKind.i64.wrap ((rgA a' p n).2 - (rgA a' p n).1)) = false := by rw [ew, ew']; exact decide_eq_false d2
      refine W.ite_f c3 ?_
      refine W.ret ⟨_, _, _, ?_, Trim.of [0, 1, 2, 9, 30, 31] [] (by decide) (by simp) (by simp), i + 1, b, p, ?_, rfl, by omega, refInv_keep hinv hq d2, rfl⟩
      · omega
      · rw [← g1]; rfl
  · have hil : i = f.length := by have := of_decide_eq_false c1; omega
    subst hil
    rw [refInv_best hfine hinv]
    exact W.ret (W.ret (RetQ.pure rfl rfl))
end Go.Proofs.YtbjjimllnffcpaaGreatDoor.Gr


set_option maxRecDepth 100000
set_option linter.unusedVariables false
set_option linter.unusedSimpArgs false
/- The reference of package group: the groups of a filter, of an event. -/
namespace Go.Proofs.YtbjjimllnffcpaaGreatDoor.Gr
open Go Go.Am Va
def od11 : Ords := [(4, [0, 1, 2, 3, 4, 5, 6, 10, 11, 12, 13, 14, 7, 8, 9, 1015, 16, 17, 18, 19, 20]), (9, [0, 1, 2, 3, 4, 5, 6, 7, 8, 1009, 10])]
theorem code11 : codeB Tryz.f11.ntmps od11 (match Tryz.f11.body with | some c => c | none => .skip) = true := by kernel_rfl
def od13 : Ords := [(10, [0, 1, 2, 3, 4, 5, 7, 10, 6, 8, 9])]
theorem code13 : codeB Tryz.f13.ntmps od13 (match Tryz.f13.body with | some c => c | none => .skip) = true := by kernel_rfl
set_option maxHeartbeats 4000000 in
theorem ok11 (s : List Att) (hs : s.length ≤ 1000000) (hnm : ∀ a ∈ s, a.nm.size ≤ 1000000) (f : List Prd) (hfs : ∀ p ∈ f, p.str.size ≤ 1000000) (hf : ∀ q ∈ f, q.nm.size ≤ 1000) (n : Int) :
    Go.Am.Pure Tryz.prog 11 [slF atC s, slF prC f, .d (nI n)] (.tuple [slS (ofL s f n), .d (nI (geC (chooseE s f n)))]) := by
  refine CallOk.softG ?_
  refine CallOk.of tysOk mixed od11 Tryz.func11 rfl rfl code11 ?_
  have k1 := ok9 s hs hnm f hfs n
  have bad : ∀ {e : GE}, chooseE s f n = e → e ≠ .ok → RetQ ([] : Store).length (fun v s' => v.softG = .tuple [slS (ofL s f n), .d (nI (geC (chooseE s f n)))] ∧ s' = []) .ret [(0, mkRet [.d (.lit (.slice none 0 0)), .d (nI (geC e))])] [] := fun {e} h1 h2 => by
    have e1 : ofL s f n = [] := by
      unfold ofL
      rw [h1]
      cases e with
      | ok => exact absurd rfl h2
      | _ => rfl
    refine RetQ.part [] (by decide) (by simp) (by simp) ⟨?_, rfl⟩
    rw [e1, h1]
    cases e <;> rfl
  cases hc : chooseE s f n with
  | arg =>
    rw [hc] at k1
    refine W.pure k1 rfl rfl ?_
    repeat (first | refine W.ite_t rfl ?_ | refine W.ite_f rfl ?_)
    have := bad hc (by simp)
    rw [hc] at this
    exact W.ret this
  | val i =>
    rw [hc] at k1
    refine W.pure k1 rfl rfl ?_
    repeat (first | refine W.ite_t rfl ?_ | refine W.ite_f rfl ?_)
    have := bad hc (by simp)
    rw [hc] at this
    exact W.ret this
  | ok =>
  clear bad
  have hfine := chooseE_ok.1 hc
  obtain ⟨j, q, hj, hjl, hq, _⟩ := hfine.best
  have hci : chooseI s f n = j := by unfold chooseI; rw [hc]; exact hj
  have hpq : pickQ s f n = q := by unfold pickQ; rw [hj]; simp [hq]
  have hof : ofL s f n = names q.nm (Dy.cover (rgQ s q n).1 (rgQ s q n).2 n) := by unfold ofL; rw [hc]; simp only [hpq]
  rw [hc, hci] at k1
  rw [hof]
  have hqm := List.mem_of_getElem? hq
  obtain ⟨k, a, hk, ha, hat, hga, hpo, hsm⟩ := hfine.prd hqm
  have hkl := (List.getElem?_eq_some_iff.1 ha).1
  have hrq : rgQ s q n = rgA a q n := by unfold rgQ; rw [hat]
  have hnm := hf q hqm
  have kr : Go.Am.Pure Tryz.prog 31 [.d (.agg (atC a)), .d (.agg (prC q)), .d (nI n)] (Dy.pairI (rgA a q n)) := Dy.ok31 a.nm a.k a.mn a.mx q.nm q.o q.lo q.hi q.str n hsm
  refine W.pure k1 rfl rfl ?_
  repeat (first | refine W.ite_t rfl ?_ | refine W.ite_f rfl ?_)
  refine W.need (ix_ok prC_len (by decide) hjl) ?_
  refine W.ld (prF0 hq) ?_
  refine W.need (ix_ok prC_len (by decide) hjl) ?_
  refine W.ld (prE hq) ?_
  refine W.pure (hk ▸ ok32 s (by omega) q.nm) rfl rfl ?_
  refine W.need (ix_ok atC_len (by decide) hkl) ?_
  refine W.ld (atE ha) ?_
  refine W.pure kr rfl rfl ?_
  have kc := Dy.ok34 (rgA a q n).1 (rgA a q n).2 n
  rw [Dy.refCover_cover] at kc
  rw [hrq]
  have hsmall := cover_small (rgA a q n).1 (rgA a q n).2 n
  have hlen := Dy.cover_len (rgA a q n).1 (rgA a q n).2 n
  generalize Dy.cover (rgA a q n).1 (rgA a q n).2 n = C at *
  rw [slI_flat] at kc
  refine W.pure kc rfl rfl ?_
  refine W.loop (fun k fr σ => ∃ i : Nat, fr = [(1, slF prC f), (8, .d (nI j)), (12, .vec 0 i), (48, slF ivC C), (49, .d (nI C.length)), (50, .d (nI i))] ∧ σ = [.vec 1 i (flat sC (names q.nm (C.take i)))] ∧ i ≤ C.length ∧ k = C.length - i) C.length
    (Start.of [1, 8, 12, 48, 49, 50] [] (by simp)) ⟨0, rfl, rfl, by omega, rfl⟩ ?_
  rintro k fr σ ⟨i, rfl, rfl, hi, rfl⟩
  refine W.ite (fun c1 => ?_) (fun c1 => ?_)
  · have hil : i < C.length := by have := of_decide_eq_true c1; omega
    obtain ⟨p, hp⟩ : ∃ x, C[i]? = some x := ⟨_, List.getElem?_eq_getElem hil⟩
    obtain ⟨s1, s2, s3, s4⟩ := hsmall p (List.mem_of_getElem? hp)
    refine W.need (ix_ok ivC_len (by decide) hil) ?_
    refine W.ld (ivE hp) ?_
    refine W.need (ix_ok prC_len (by decide) hjl) ?_
    refine W.ld (prF0 hq) ?_
    have kn := ok21 q.nm p.1.toNat p.2.toNat hnm (by omega) (by omega)
    rw [show ((p.1.toNat : Nat) : Int) = p.1 from by omega, show ((p.2.toNat : Nat) : Int) = p.2 from by omega] at kn
    refine W.pure kn rfl rfl ?_
    refine W.alt_l ?_
    refine W.need ⟨rfl, rfl, rfl, by omega, by omega, by intro c hc; obtain rfl := List.mem_singleton.1 hc; rfl⟩ ?_
    have g1 : IntKind.i64.wrap ((i : Int) + 1) = ((i + 1 : Nat) : Int) := by rw [wrap64 (by omega) (by omega)]; rfl
    refine W.ret ⟨_, _, _, ?_, Trim.of [1, 8, 12, 48, 49, 50] [0] (by decide) (by simp) (by simp), i + 1, ?_, ?_, by omega, rfl⟩
    · omega
    · rw [← g1]; rfl
    · rw [names_take hp, flat_append]; rfl
  · have hil : i = C.length := by have := of_decide_eq_false c1; omega
    refine W.ret (W.ret ?_)
    refine RetQ.part [] (by decide) (by simp) (by simp) ⟨?_, rfl⟩
    show AV.tuple [.d (.sl i ((flat sC (names q.nm (C.take i))).take (i * 1))), .d (nI 0)] = _
    have hl : (names q.nm C).length = C.length := by simp [names]
    rw [hil, List.take_length, ← hl, flat_all sC_len]
    rfl
set_option maxHeartbeats 4000000 in
theorem ok13 (s : List Att) (hs : s.length ≤ 1000000) (hnm : ∀ a ∈ s, a.nm.size ≤ 1000) (e : Evt) (hv : ∀ v ∈ e.vals, v.str.size ≤ 1000000) (n : Int) :
    Go.Am.Pure Tryz.prog 13 [slF atC s, slF vaC e.vals, .d (nI e.pay.size), .d (nI n)] (.tuple [slS (reachL s e n), .d (nI (geC (reachE s e n)))]) := by
  refine CallOk.softG ?_
  refine CallOk.of tysOk mixed od13 Tryz.func13 rfl rfl code13 ?_
  have k1 := ok29 s (fun a ha => by have := hnm a ha; omega) n
  have bad : ∀ {g : GE}, reachE s e n = g → g ≠ .ok → ∀ {σ : Store}, RetQ ([] : Store).length (fun v s' => v.softG = .tuple [slS (reachL s e n), .d (nI (geC (reachE s e n)))] ∧ s' = []) .ret [(0, mkRet [.d (.lit (.slice none 0 0)), .d (nI (geC g))])] σ := fun {g} h1 h2 σ => by
    have e1 : reachL s e n = [] := by
      unfold reachL
      rw [h1]
      cases g with
      | ok => exact absurd rfl h2
      | _ => rfl
    refine RetQ.part [] (by decide) (by simp) (by simp) ⟨?_, rfl⟩
    rw [e1, h1]
    cases g <;> rfl
  cases hc : checkE s n with
  | arg =>
    rw [hc] at k1
    have e1 : reachE s e n = .arg := by unfold reachE; rw [hc]
    refine W.pure k1 rfl rfl ?_
    repeat (first | refine W.ite_t rfl ?_ | refine W.ite_f rfl ?_)
    exact W.ret (bad e1 (by simp))
  | val i =>
    rw [hc] at k1
    have e1 : reachE s e n = .val i := by unfold reachE; rw [hc]
    refine W.pure k1 rfl rfl ?_
    repeat (first | refine W.ite_t rfl ?_ | refine W.ite_f rfl ?_)
    exact W.ret (bad e1 (by simp))
  | ok =>
  rw [hc] at k1
  refine W.pure k1 rfl rfl ?_
  repeat (first | refine W.ite_t rfl ?_ | refine W.ite_f rfl ?_)
  have k2 := ok38 s (by omega) e hv
  cases hf : evtErr s e with
  | some i =>
    rw [hf] at k2
    have e1 : reachE s e n = .val i := by unfold reachE; rw [hc, hf]; rfl
    have c1 : decide ((i : Int) ≥ 0) = true := decide_eq_true (by omega)
    refine W.pure k2 rfl rfl ?_
    repeat (first | refine W.ite_t rfl ?_ | refine W.ite_f rfl ?_ | refine W.ite_t c1 ?_)
    exact W.ret (bad e1 (by simp))
  | none =>
  rw [hf] at k2
  refine W.pure k2 rfl rfl ?_
  repeat (first | refine W.ite_t rfl ?_ | refine W.ite_f rfl ?_)
  clear bad
  have e1 : reachE s e n = .ok := by unfold reachE; rw [hc, hf]; rfl
  have hfine := reachE_ok.1 e1
  have hlen := evtErr_none hf
  have e2 : reachL s e n = reachN s e n s.length := by unfold reachL; rw [e1]
  have hn0 := hfine.n0
  have hn8 := hfine.n8
  rw [e1, e2]
  refine W.loop (fun k fr σ => ∃ i : Nat, fr = [(1, slF vaC e.vals), (3, .d (nI n)), (11, .vec 0 (reachN s e n i).length), (32, slF atC s), (33, .d (nI s.length)), (34, .d (nI i))] ∧ σ = [.vec 1 (reachN s e n i).length (flat sC (reachN s e n i))] ∧ i ≤ s.length ∧ k = s.length - i) s.length
    (Start.of [1, 3, 11, 32, 33, 34] [] (by simp)) ⟨0, rfl, rfl, by omega, rfl⟩ ?_
  rintro k fr σ ⟨i, rfl, rfl, hi, rfl⟩
  refine W.ite (fun c1 => ?_) (fun c1 => ?_)
  · have hil : i < s.length := by have := of_decide_eq_true c1; omega
    obtain ⟨a, ha⟩ : ∃ x, s[i]? = some x := ⟨_, List.getElem?_eq_getElem hil⟩
    obtain ⟨v, hv⟩ : ∃ x, e.vals[i]? = some x := ⟨_, List.getElem?_eq_getElem (by omega)⟩
    have hat : attAt s i = a := by unfold attAt; rw [ha]; rfl
    have hvt : valAt e i = v := by unfold valAt; rw [hv]; rfl
    have hct : chainAt s e n i = Dy.chain (Dy.cellA a v n) n := by unfold chainAt; rw [hat, hvt]
    have hna := hnm a (List.mem_of_getElem? ha)
    have hrl := reachN_len s e n i
    have hstep : reachN s e n (i + 1) = reachN s e n i ++ names a.nm (chainAt s e n i) := by rw [reachN, hat]
    have kd : Go.Am.Pure Tryz.prog 40 [.d (.agg (atC a)), .d (.agg (vaC v)), .d (nI n)] (.d (nI (Dy.cellA a v n))) := Dy.ok40 a.nm a.k a.mn a.mx v.num v.str n
    refine W.need (ix_ok atC_len (by decide) hil) ?_
    refine W.ld (atE ha) ?_
    refine W.need (ix_ok vaC_len (by decide) (by omega)) ?_
    refine W.ld (vaE hv) ?_
    refine W.pure kd rfl rfl ?_
    have kc := Dy.ok39 (Dy.cellA a v n) n
    rw [slI_flat, ← hct] at kc
    refine W.pure kc rfl rfl ?_
    have hsm : Small (chainAt s e n i) := by rw [hct]; exact chain_small _ _
    have hcl : (chainAt s e n i).length ≤ 1000 := by rw [hct]; exact Dy.chain_len _ _
    generalize chainAt s e n i = C at *
    generalize reachN s e n i = R at *
    refine W.loop (fun k fr σ => ∃ m : Nat, fr = [(1, slF vaC e.vals), (3, .d (nI n)), (11, .vec 0 (R.length + m)), (13, .ptr 1 0), (32, slF atC s), (33, .d (nI s.length)), (34, .d (nI i)), (47, slF ivC C), (48, .d (nI C.length)), (49, .d (nI m))] ∧
        σ = [.vec 1 (R.length + m) (flat sC (R ++ names a.nm (C.take m))), bD (atC a)] ∧ m ≤ C.length ∧ k = C.length - m) C.length
      (Start.of [1, 3, 11, 13, 32, 33, 34, 47, 48, 49] [] (by simp)) ⟨0, rfl, by rw [List.take_zero]; simp only [names, List.map_nil, List.append_nil]; rfl, by omega, rfl⟩ ?_
    rintro k fr σ ⟨m, rfl, rfl, hm, rfl⟩
    refine W.ite (fun c2 => ?_) (fun c2 => ?_)
    · have hml : m < C.length := by have := of_decide_eq_true c2; omega
      obtain ⟨p, hp⟩ : ∃ x, C[m]? = some x := ⟨_, List.getElem?_eq_getElem hml⟩
      obtain ⟨s1, s2, s3, s4⟩ := hsm p (List.mem_of_getElem? hp)
      refine W.need (ix_ok ivC_len (by decide) hml) ?_
      refine W.ld (ivE hp) ?_
      have kn := ok21 a.nm p.1.toNat p.2.toNat hna (by omega) (by omega)
      rw [show ((p.1.toNat : Nat) : Int) = p.1 from by omega, show ((p.2.toNat : Nat) : Int) = p.2 from by omega] at kn
      refine W.pure kn rfl rfl ?_
      refine W.alt_l ?_
      refine W.need ⟨rfl, rfl, rfl, by omega, by omega, by intro c hc; obtain rfl := List.mem_singleton.1 hc; rfl⟩ ?_
      have g1 : IntKind.i64.wrap ((m : Int) + 1) = ((m + 1 : Nat) : Int) := by rw [wrap64 (by omega) (by omega)]; rfl
      refine W.ret ⟨_, _, _, ?_, Trim.of [1, 3, 11, 13, 32, 33, 34, 47, 48, 49] [0, 1] (by decide) (by simp) (by intro j hj; have : j = 0 ∨ j = 1 := (by simp at hj; omega); rcases this with rfl | rfl <;> rfl), m + 1, ?_, ?_, by omega, rfl⟩
      · omega
      · rw [← g1]; rfl
      · rw [names_take hp, ← List.append_assoc, flat_append (a := R ++ names a.nm (C.take m))]; rfl
    · have hml : m = C.length := by have := of_decide_eq_false c2; omega
      have g1 : IntKind.i64.wrap ((i : Int) + 1) = ((i + 1 : Nat) : Int) := by rw [wrap64 (by omega) (by omega)]; rfl
      have hl2 : (reachN s e n (i + 1)).length = R.length + m := by rw [hstep, List.length_append, names_len, hml]
      refine W.ret (W.ret ⟨_, _, _, ?_, Trim.of [1, 3, 11, 32, 33, 34] [0] (by decide) (by simp) (by simp), i + 1, ?_, ?_, by omega, rfl⟩)
      · omega
      · rw [← g1, hl2]; rfl
      · rw [hl2, hstep]
        rw [hml, List.take_length]
        rfl
  · have hil : i = s.length := by have := of_decide_eq_false c1; omega
    refine W.ret (W.ret ?_)
    refine RetQ.part [] (by decide) (by simp) (by simp) ⟨?_, rfl⟩
    show AV.tuple [.d (.sl (reachN s e n i).length ((flat sC (reachN s e n i)).take ((reachN s e n i).length * 1))), .d (nI 0)] = _
    rw [hil, flat_all sC_len]
    rfl
end Go.Proofs.YtbjjimllnffcpaaGreatDoor.Gr

set_option maxRecDepth 100000
set_option linter.unusedVariables false
set_option linter.unusedSimpArgs false
/- What the document fixes of groups. -/
namespace Go.Proofs.YtbjjimllnffcpaaGreatDoor.Gr
open Go Go.Am Va
def od14 : Ords := []
theorem code14 : codeB Tryz.f14.ntmps od14 (match Tryz.f14.body with | some c => c | none => .skip) = true := by kernel_rfl
def priceS : ByteArray := txt [112, 114, 105, 99, 101]
def awA : List Att := [⟨priceS, 1, 0, 7⟩]
def awF : List Prd := [⟨priceS, 1, 1, 6, txt []⟩]
def awE : Evt := ⟨[⟨5, txt []⟩], txt []⟩
theorem aw1 : chooseE awA awF 3 = .ok := by decide +kernel
theorem aw2 : reachE awA awE 3 = .ok := by decide +kernel
def awL : List ByteArray := [txt [112, 114, 105, 99, 101, 46, 51, 46, 49], txt [112, 114, 105, 99, 101, 46, 50, 46, 49], txt [112, 114, 105, 99, 101, 46, 50, 46, 50], txt [112, 114, 105, 99, 101, 46, 51, 46, 54]]
def awM : List ByteArray := [txt [112, 114, 105, 99, 101, 46, 48, 46, 48], txt [112, 114, 105, 99, 101, 46, 49, 46, 49], txt [112, 114, 105, 99, 101, 46, 50, 46, 50], txt [112, 114, 105, 99, 101, 46, 51, 46, 53]]
theorem aw3 : ofL awA awF 3 = awL := by decide +kernel
theorem aw4 : reachL awA awE 3 = awM := by decide +kernel
theorem eqL_refl : ∀ l : List ByteArray, eqL l l = true
  | [] => rfl
  | a :: r => by rw [eqL, eqL_refl r]; unfold sEq; simp
theorem ok14 : Go.Am.Pure Tryz.prog 14 [] (bI true) := by
  refine CallOk.of tysOk mixed od14 Tryz.func14 rfl rfl code14 ?_
  have k1 := ok10 awA (by decide) awF (by decide) 3
  rw [aw1, aw3] at k1
  have k2 := ok12 awA (by decide) (by decide) awE 3
  rw [aw2, aw4] at k2
  have k3 := ok16 awL awL (by decide) (by decide)
  have k4 := ok16 awM awM (by decide) (by decide)
  rw [eqL_refl] at k3 k4
  refine W.alt_l (W.alt_l ?_)
  refine W.pure k1 rfl rfl ?_
  refine W.alt_l ?_
  refine W.pure k2 rfl rfl ?_
  repeat (first | refine W.ite_t rfl ?_ | refine W.ite_f rfl ?_)
  refine W.alt_l ?_
  repeat (first | refine W.ite_t rfl ?_ | refine W.ite_f rfl ?_)
  refine W.pure k3 rfl rfl ?_
  repeat (first | refine W.ite_t rfl ?_ | refine W.ite_f rfl ?_)
  refine W.alt_l ?_
  repeat (first | refine W.ite_t rfl ?_ | refine W.ite_f rfl ?_)
  refine W.pure k4 rfl rfl ?_
  repeat (first | refine W.ite_t rfl ?_ | refine W.ite_f rfl ?_)
  exact W.ret (RetQ.pure rfl rfl)
end Go.Proofs.YtbjjimllnffcpaaGreatDoor.Gr
