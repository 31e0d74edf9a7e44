import Derived.Test.YtbjjimllnffcpaaGreatDoorGG
import Derived.Test.YtbjjimllnffcpaaGreatDoorVV
import Derived.Test.YtbjjimllnffcpaaGreatDoorDD

set_option maxRecDepth 100000
set_option linter.unusedVariables false
set_option linter.unusedSimpArgs false
/- The reference of package group: names. -/
namespace Go.Proofs.YtbjjimllnffcpaaGreatDoor.Gr
open Go Go.Am Va
def od50 : Ords := []
theorem code50 : codeB Tryz.f50.ntmps od50 (match Tryz.f50.body with | some c => c | none => .skip) = true := by kernel_rfl
def od21 : Ords := [(1, [0, 1, 2, 3, 7, 8, 4, 5, 6, 1009, 10, 11])]
theorem code21 : codeB Tryz.f21.ntmps od21 (match Tryz.f21.body with | some c => c | none => .skip) = true := by kernel_rfl
def od29 : Ords := []
theorem code29 : codeB Tryz.f29.ntmps od29 (match Tryz.f29.body with | some c => c | none => .skip) = true := by kernel_rfl
/-! ### numbers -/
def digG : Nat → Bool → Nat → ByteArray → ByteArray
  | 0, _, _, s => s
  | f + 1, b, u, s => if b = true ∨ 0 < u then digG f false (u / 10) (txt [UInt8.ofNat (48 + u % 10)] ++ s) else s
def digI (n : Int) : ByteArray := if n < 0 then txt [45] ++ digG 20 true n.natAbs (txt []) else digG 20 true n.natAbs (txt [])
theorem u64mod (x : Int) : IntKind.u64.wrap x = x % 18446744073709551616 := by
  rw [show IntKind.u64.wrap x = (if (false && decide (x % (2 ^ 64 : Int) ≥ (2 ^ 63 : Int))) = true then x % (2 ^ 64 : Int) - (2 ^ 64 : Int) else x % (2 ^ 64 : Int)) from rfl]
  rw [if_neg (by simp)]
  have e1 : (2 : Int) ^ 64 = 18446744073709551616 := by decide
  rw [e1]
theorem u8mod (x : Int) : IntKind.u8.wrap x = x % 256 := by
  rw [show IntKind.u8.wrap x = (if (false && decide (x % (2 ^ 8 : Int) ≥ (2 ^ 7 : Int))) = true then x % (2 ^ 8 : Int) - (2 ^ 8 : Int) else x % (2 ^ 8 : Int)) from rfl]
  rw [if_neg (by simp)]
  have e1 : (2 : Int) ^ 8 = 256 := by decide
  rw [e1]
theorem bytesOf1 (k : Nat) (h : k < 256) : bytesOf [.lit (.int .u8 (k : Nat))] = txt [UInt8.ofNat k] := by
  unfold bytesOf txt
  simp [D.toI]
theorem one_size (b : UInt8) : (txt [b]).size = 1 := rfl
set_option maxHeartbeats 4000000 in
theorem ok50 (n : Int) (h0 : -9223372036854775808 ≤ n) (h1 : n ≤ 9223372036854775807) : Go.Am.Pure Tryz.prog 50 [.d (nI n)] (.d (sD (digI n))) := by
  refine CallOk.of tysOk mixed od50 Tryz.func50 rfl rfl code50 ?_
  by_cases hn : n < 0
  · have c0 : decide (n < 0) = true := decide_eq_true hn
    have eu : IntKind.u64.wrap (0 - IntKind.u64.wrap n) = (n.natAbs : Int) := by rw [u64mod, u64mod]; omega
    refine W.ite_t c0 ?_
    refine W.loop (fun k fr σ => ∃ (i u : Nat) (s : ByteArray), fr = [(0, .d (nI n)), (3, .d (uI u)), (4, .d (sD s)), (5, .d (nI i))] ∧ σ = [] ∧ i ≤ 20 ∧ s.size ≤ i ∧ u < 18446744073709551616 ∧ digG (20 - i) (decide (i = 0)) u s = digG 20 true n.natAbs (txt []) ∧ k = 20 - i) 20
      (Start.of [0, 3, 4, 5] [] (by simp)) ⟨0, n.natAbs, txt [], by rw [← eu]; rfl, rfl, by omega, by decide, by omega, rfl, rfl⟩ ?_
    rintro k fr σ ⟨i, u, s, rfl, rfl, hi, hs, hu, hd, rfl⟩
    have stop : i = 20 ∨ (i ≠ 0 ∧ u = 0) → digG 20 true n.natAbs (txt []) = s := fun h => by
      rw [← hd]
      rcases h with rfl | ⟨h, rfl⟩
      · rfl
      · cases h20 : 20 - i with
        | zero => rfl
        | succ f => rw [digG, if_neg (by simp [h])]
    have c2 : ((i : Int) == 0) = decide (i = 0) := by rw [beq_int]; by_cases h : i = 0 <;> simp [h]
    by_cases h20 : i < 20
    · have c1 : decide ((i : Int) < 20) = true := decide_eq_true (by omega)
      by_cases hgo : i = 0 ∨ 0 < u
      · have step : digG (20 - (i + 1)) (decide (i + 1 = 0)) (u / 10) (txt [UInt8.ofNat (48 + u % 10)] ++ s) = digG 20 true n.natAbs (txt []) := by
          rw [← hd]
          obtain ⟨f, hf⟩ : ∃ f, 20 - i = f + 1 := ⟨19 - i, by omega⟩
          rw [show 20 - (i + 1) = f from by omega, hf, digG, if_pos (by simpa using hgo)]
          simp
        have e1 : (u : Int).tmod 10 = ((u % 10 : Nat) : Int) := by rw [Int.tmod_eq_emod_of_nonneg (by omega)]; rfl
        have e2 : IntKind.u64.wrap (48 + (u : Int).tmod 10) = ((48 + u % 10 : Nat) : Int) := by rw [e1, u64mod]; omega
        have e3 : IntKind.u8.wrap (IntKind.u64.wrap (48 + (u : Int).tmod 10)) = ((48 + u % 10 : Nat) : Int) := by rw [e2, u8mod]; omega
        have e4 : IntKind.u64.wrap ((u : Int).tdiv 10) = ((u / 10 : Nat) : Int) := by rw [Int.tdiv_eq_ediv_of_nonneg (by omega), u64mod]; omega
        have g1 : IntKind.i64.wrap ((i : Int) + 1) = ((i + 1 : Nat) : Int) := by rw [wrap64 (by omega) (by omega)]; rfl
        have hby : ∀ c ∈ [D.lit (.int .u8 (IntKind.u8.wrap (IntKind.u64.wrap (48 + (u : Int).tmod 10))))], isByte c := fun c hc => by
          obtain rfl := List.mem_singleton.1 hc
          rw [e3]
          exact ⟨rfl, by simp only [D.toI]; omega, by simp only [D.toI]; omega⟩
        have hbo : bytesOf [D.lit (.int .u8 (IntKind.u8.wrap (IntKind.u64.wrap (48 + (u : Int).tmod 10))))] = txt [UInt8.ofNat (48 + u % 10)] := by
          rw [e3]; exact bytesOf1 _ (by omega)
        by_cases hz : i = 0
        · have c3 : ((i : Int) == 0) = true := by rw [c2]; exact decide_eq_true hz
          repeat (first | refine W.ite_t rfl ?_ | refine W.ite_f rfl ?_ | refine W.ite_t c1 ?_ | refine W.ite_t c3 ?_)
          refine W.need (by decide) ?_
          refine W.alt_l ?_
          refine W.need ⟨rfl, rfl, hby⟩ ?_
          refine W.need (by show (((bytesOf [D.lit (.int .u8 (IntKind.u8.wrap (IntKind.u64.wrap (48 + (u : Int).tmod 10))))]).size + s.size : Nat) : Int) ≤ 9223372036854775807; rw [hbo, one_size]; omega) ?_
          refine W.need (by decide) ?_
          refine W.ret ⟨_, _, _, ?_, Trim.of [0, 3, 4, 5] [] (by decide) (by simp) (by simp), i + 1, u / 10, txt [UInt8.ofNat (48 + u % 10)] ++ s, ?_, rfl, by omega, by rw [ByteArray.size_append, one_size]; omega, by omega, step, rfl⟩
          · omega
          · rw [← e4, ← g1, ← hbo]; rfl
        · have c3 : ((i : Int) == 0) = false := by rw [c2]; exact decide_eq_false hz
          have c4 : decide ((u : Int) > 0) = true := decide_eq_true (by omega)
          repeat (first | refine W.ite_t rfl ?_ | refine W.ite_f rfl ?_ | refine W.ite_t c1 ?_ | refine W.ite_f c3 ?_ | refine W.ite_t c4 ?_)
          refine W.need (by decide) ?_
          refine W.alt_l ?_
          refine W.need ⟨rfl, rfl, hby⟩ ?_
          refine W.need (by show (((bytesOf [D.lit (.int .u8 (IntKind.u8.wrap (IntKind.u64.wrap (48 + (u : Int).tmod 10))))]).size + s.size : Nat) : Int) ≤ 9223372036854775807; rw [hbo, one_size]; omega) ?_
          refine W.need (by decide) ?_
          refine W.ret ⟨_, _, _, ?_, Trim.of [0, 3, 4, 5] [] (by decide) (by simp) (by simp), i + 1, u / 10, txt [UInt8.ofNat (48 + u % 10)] ++ s, ?_, rfl, by omega, by rw [ByteArray.size_append, one_size]; omega, by omega, step, rfl⟩
          · omega
          · rw [← e4, ← g1, ← hbo]; rfl
      · have c3 : ((i : Int) == 0) = false := by rw [c2]; exact decide_eq_false (by omega)
        have c4 : decide ((u : Int) > 0) = false := decide_eq_false (by omega)
        repeat (first | refine W.ite_t rfl ?_ | refine W.ite_f rfl ?_ | refine W.ite_t c1 ?_ | refine W.ite_f c3 ?_ | refine W.ite_f c4 ?_)
        refine W.ret ?_
        refine W.ite_t c0 ?_
        refine W.need (by show ((1 + s.size : Nat) : Int) ≤ 9223372036854775807; omega) ?_
        refine W.ret (RetQ.pure rfl (ret_sD ?_))
        unfold digI
        rw [if_pos hn, stop (by omega)]
        rfl
    · have c1 : decide ((i : Int) < 20) = false := decide_eq_false (by omega)
      repeat (first | refine W.ite_t rfl ?_ | refine W.ite_f rfl ?_ | refine W.ite_f c1 ?_)
      refine W.ret ?_
      refine W.ite_t c0 ?_
      refine W.need (by show ((1 + s.size : Nat) : Int) ≤ 9223372036854775807; omega) ?_
      refine W.ret (RetQ.pure rfl (ret_sD ?_))
      unfold digI
      rw [if_pos hn, stop (by omega)]
      rfl
  · have c0 : decide (n < 0) = false := decide_eq_false hn
    have eu : IntKind.u64.wrap n = (n.natAbs : Int) := by rw [u64mod]; omega
    refine W.ite_f c0 ?_
    refine W.loop (fun k fr σ => ∃ (i u : Nat) (s : ByteArray), fr = [(0, .d (nI n)), (3, .d (uI u)), (4, .d (sD s)), (5, .d (nI i))] ∧ σ = [] ∧ i ≤ 20 ∧ s.size ≤ i ∧ u < 18446744073709551616 ∧ digG (20 - i) (decide (i = 0)) u s = digG 20 true n.natAbs (txt []) ∧ k = 20 - i) 20
      (Start.of [0, 3, 4, 5] [] (by simp)) ⟨0, n.natAbs, txt [], by rw [← eu]; rfl, rfl, by omega, by decide, by omega, rfl, rfl⟩ ?_
    rintro k fr σ ⟨i, u, s, rfl, rfl, hi, hs, hu, hd, rfl⟩
    have stop : i = 20 ∨ (i ≠ 0 ∧ u = 0) → digG 20 true n.natAbs (txt []) = s := fun h => by
      rw [← hd]
      rcases h with rfl | ⟨h, rfl⟩
      · rfl
      · cases h20 : 20 - i with
        | zero => rfl
        | succ f => rw [digG, if_neg (by simp [h])]
    have c2 : ((i : Int) == 0) = decide (i = 0) := by rw [beq_int]; by_cases h : i = 0 <;> simp [h]
    by_cases h20 : i < 20
    · have c1 : decide ((i : Int) < 20) = true := decide_eq_true (by omega)
      by_cases hgo : i = 0 ∨ 0 < u
      · have step : digG (20 - (i + 1)) (decide (i + 1 = 0)) (u / 10) (txt [UInt8.ofNat (48 + u % 10)] ++ s) = digG 20 true n.natAbs (txt []) := by
          rw [← hd]
          obtain ⟨f, hf⟩ : ∃ f, 20 - i = f + 1 := ⟨19 - i, by omega⟩
          rw [show 20 - (i + 1) = f from by omega, hf, digG, if_pos (by simpa using hgo)]
          simp
        have e1 : (u : Int).tmod 10 = ((u % 10 : Nat) : Int) := by rw [Int.tmod_eq_emod_of_nonneg (by omega)]; rfl
        have e2 : IntKind.u64.wrap (48 + (u : Int).tmod 10) = ((48 + u % 10 : Nat) : Int) := by rw [e1, u64mod]; omega
        have e3 : IntKind.u8.wrap (IntKind.u64.wrap (48 + (u : Int).tmod 10)) = ((48 + u % 10 : Nat) : Int) := by rw [e2, u8mod]; omega
        have e4 : IntKind.u64.wrap ((u : Int).tdiv 10) = ((u / 10 : Nat) : Int) := by rw [Int.tdiv_eq_ediv_of_nonneg (by omega), u64mod]; omega
        have g1 : IntKind.i64.wrap ((i : Int) + 1) = ((i + 1 : Nat) : Int) := by rw [wrap64 (by omega) (by omega)]; rfl
        have hby : ∀ c ∈ [D.lit (.int .u8 (IntKind.u8.wrap (IntKind.u64.wrap (48 + (u : Int).tmod 10))))], isByte c := fun c hc => by
          obtain rfl := List.mem_singleton.1 hc
          rw [e3]
          exact ⟨rfl, by simp only [D.toI]; omega, by simp only [D.toI]; omega⟩
        have hbo : bytesOf [D.lit (.int .u8 (IntKind.u8.wrap (IntKind.u64.wrap (48 + (u : Int).tmod 10))))] = txt [UInt8.ofNat (48 + u % 10)] := by
          rw [e3]; exact bytesOf1 _ (by omega)
        by_cases hz : i = 0
        · have c3 : ((i : Int) == 0) = true := by rw [c2]; exact decide_eq_true hz
          repeat (first | refine W.ite_t rfl ?_ | refine W.ite_f rfl ?_ | refine W.ite_t c1 ?_ | refine W.ite_t c3 ?_)
          refine W.need (by decide) ?_
          refine W.alt_l ?_
          refine W.need ⟨rfl, rfl, hby⟩ ?_
          refine W.need (by show (((bytesOf [D.lit (.int .u8 (IntKind.u8.wrap (IntKind.u64.wrap (48 + (u : Int).tmod 10))))]).size + s.size : Nat) : Int) ≤ 9223372036854775807; rw [hbo, one_size]; omega) ?_
          refine W.need (by decide) ?_
          refine W.ret ⟨_, _, _, ?_, Trim.of [0, 3, 4, 5] [] (by decide) (by simp) (by simp), i + 1, u / 10, txt [UInt8.ofNat (48 + u % 10)] ++ s, ?_, rfl, by omega, by rw [ByteArray.size_append, one_size]; omega, by omega, step, rfl⟩
          · omega
          · rw [← e4, ← g1, ← hbo]; rfl
        · have c3 : ((i : Int) == 0) = false := by rw [c2]; exact decide_eq_false hz
          have c4 : decide ((u : Int) > 0) = true := decide_eq_true (by omega)
          repeat (first | refine W.ite_t rfl ?_ | refine W.ite_f rfl ?_ | refine W.ite_t c1 ?_ | refine W.ite_f c3 ?_ | refine W.ite_t c4 ?_)
          refine W.need (by decide) ?_
          refine W.alt_l ?_
          refine W.need ⟨rfl, rfl, hby⟩ ?_
          refine W.need (by show (((bytesOf [D.lit (.int .u8 (IntKind.u8.wrap (IntKind.u64.wrap (48 + (u : Int).tmod 10))))]).size + s.size : Nat) : Int) ≤ 9223372036854775807; rw [hbo, one_size]; omega) ?_
          refine W.need (by decide) ?_
          refine W.ret ⟨_, _, _, ?_, Trim.of [0, 3, 4, 5] [] (by decide) (by simp) (by simp), i + 1, u / 10, txt [UInt8.ofNat (48 + u % 10)] ++ s, ?_, rfl, by omega, by rw [ByteArray.size_append, one_size]; omega, by omega, step, rfl⟩
          · omega
          · rw [← e4, ← g1, ← hbo]; rfl
      · have c3 : ((i : Int) == 0) = false := by rw [c2]; exact decide_eq_false (by omega)
        have c4 : decide ((u : Int) > 0) = false := decide_eq_false (by omega)
        repeat (first | refine W.ite_t rfl ?_ | refine W.ite_f rfl ?_ | refine W.ite_t c1 ?_ | refine W.ite_f c3 ?_ | refine W.ite_f c4 ?_)
        refine W.ret ?_
        refine W.ite_f c0 ?_
        refine W.ret (RetQ.pure rfl (ret_sD ?_))
        unfold digI
        rw [if_neg hn, stop (by omega)]
    · have c1 : decide ((i : Int) < 20) = false := decide_eq_false (by omega)
      repeat (first | refine W.ite_t rfl ?_ | refine W.ite_f rfl ?_ | refine W.ite_f c1 ?_)
      refine W.ret ?_
      refine W.ite_f c0 ?_
      refine W.ret (RetQ.pure rfl (ret_sD ?_))
      unfold digI
      rw [if_neg hn, stop (by omega)]
theorem digI_small : ∀ n : Nat, n < 1000 → digI (n : Int) = numS n := by decide +kernel
theorem ok21 (a : ByteArray) (l i : Nat) (ha : a.size ≤ 1000) (hl : l < 1000) (hi : i < 1000) : Go.Am.Pure Tryz.prog 21 [.d (sD a), Dy.iv l i] (.d (sD (nameS a l i))) := by
  refine CallOk.of tysOk mixed od21 Tryz.func21 rfl rfl code21 ?_
  have s1 := numS_size l
  have s2 := numS_size i
  have k1 := ok50 (l : Int) (by omega) (by omega)
  have k2 := ok50 (i : Int) (by omega) (by omega)
  rw [digI_small l hl] at k1
  rw [digI_small i hi] at k2
  have e1 : (a ++ dotS).size = a.size + 1 := by rw [ByteArray.size_append]; rfl
  have e2 : (a ++ dotS ++ numS l).size = a.size + 1 + (numS l).size := by rw [ByteArray.size_append, e1]
  have e3 : (a ++ dotS ++ numS l ++ dotS).size = a.size + 1 + (numS l).size + 1 := by rw [ByteArray.size_append, e2]; rfl
  refine W.need (by show ((a.size + 1 : Nat) : Int) ≤ 9223372036854775807; omega) ?_
  refine W.pure k1 rfl rfl ?_
  refine W.need (by show (((a ++ dotS).size + (numS l).size : Nat) : Int) ≤ 9223372036854775807; rw [e1]; omega) ?_
  refine W.need (by show (((a ++ dotS ++ numS l).size + 1 : Nat) : Int) ≤ 9223372036854775807; rw [e2]; omega) ?_
  refine W.pure k2 rfl rfl ?_
  refine W.need (by show (((a ++ dotS ++ numS l ++ dotS).size + (numS i).size : Nat) : Int) ≤ 9223372036854775807; rw [e3]; omega) ?_
  exact W.ret (RetQ.pure rfl rfl)
/-- The code of what is wrong. -/
def geC : GE → Int
  | .ok => 0
  | .arg => 1
  | .val _ => 3
theorem ok29 (s : List Att) (hs : ∀ a ∈ s, a.nm.size ≤ 1000000) (n : Int) : Go.Am.Pure Tryz.prog 29 [slF atC s, .d (nI n)] (.d (nI (geC (checkE s n)))) := by
  refine CallOk.of tysOk mixed od29 Tryz.func29 rfl rfl code29 ?_
  by_cases h0 : n < 0
  · have c0 : decide (n < 0) = true := decide_eq_true h0
    repeat (first | refine W.ite_t rfl ?_ | refine W.ite_f rfl ?_ | refine W.ite_t c0 ?_)
    refine W.ret (RetQ.pure rfl ?_)
    rw [checkE, if_pos (.inl h0)]
    rfl
  · have c0 : decide (n < 0) = false := decide_eq_false h0
    by_cases h8 : n > 8
    · have c8 : decide (n > 8) = true := decide_eq_true h8
      repeat (first | refine W.ite_t rfl ?_ | refine W.ite_f rfl ?_ | refine W.ite_f c0 ?_ | refine W.ite_t c8 ?_)
      refine W.ret (RetQ.pure rfl ?_)
      rw [checkE, if_pos (.inr h8)]
      rfl
    · have c8 : decide (n > 8) = false := decide_eq_false h8
      repeat (first | refine W.ite_t rfl ?_ | refine W.ite_f rfl ?_ | refine W.ite_f c0 ?_ | refine W.ite_f c8 ?_)
      refine W.pure (ok62 s hs) rfl rfl ?_
      have e : checkE s n = ofO (chkErr s) := by rw [checkE, if_neg (by omega)]
      rw [e]
      cases hc : chkErr s with
      | none =>
        repeat (first | refine W.ite_t rfl ?_ | refine W.ite_f rfl ?_)
        exact W.ret (RetQ.pure rfl rfl)
      | some i =>
        have c1 : decide ((i : Int) ≥ 0) = true := decide_eq_true (by omega)
        repeat (first | refine W.ite_t rfl ?_ | refine W.ite_f rfl ?_ | refine W.ite_t c1 ?_)
        exact W.ret (RetQ.pure rfl rfl)
end Go.Proofs.YtbjjimllnffcpaaGreatDoor.Gr

set_option maxRecDepth 100000
set_option linter.unusedVariables false
set_option linter.unusedSimpArgs false
/- What the document fixes of groups. -/
namespace Go.Proofs.YtbjjimllnffcpaaGreatDoor.Gr
open Go Go.Am Va
def od14 : Ords := []
theorem code14 : codeB Tryz.f14.ntmps od14 (match Tryz.f14.body with | some c => c | none => .skip) = true := by kernel_rfl
def priceS : ByteArray := txt [112, 114, 105, 99, 101]
def awA : List Att := [⟨priceS, 1, 0, 7⟩]
def awF : List Prd := [⟨priceS, 1, 1, 6, txt []⟩]
def awE : Evt := ⟨[⟨5, txt []⟩], txt []⟩
theorem aw1 : chooseE awA awF 3 = .ok := by decide +kernel
theorem aw2 : reachE awA awE 3 = .ok := by decide +kernel
def awL : List ByteArray := [txt [112, 114, 105, 99, 101, 46, 51, 46, 49], txt [112, 114, 105, 99, 101, 46, 50, 46, 49], txt [112, 114, 105, 99, 101, 46, 50, 46, 50], txt [112, 114, 105, 99, 101, 46, 51, 46, 54]]
def awM : List ByteArray := [txt [112, 114, 105, 99, 101, 46, 48, 46, 48], txt [112, 114, 105, 99, 101, 46, 49, 46, 49], txt [112, 114, 105, 99, 101, 46, 50, 46, 50], txt [112, 114, 105, 99, 101, 46, 51, 46, 53]]
theorem aw3 : ofL awA awF 3 = awL := by decide +kernel
theorem aw4 : reachL awA awE 3 = awM := by decide +kernel
theorem eqL_refl : ∀ l : List ByteArray, eqL l l = true
  | [] => rfl
  | a :: r => by rw [eqL, eqL_refl r]; unfold sEq; simp
theorem ok14 : Go.Am.Pure Tryz.prog 14 [] (bI true) := by
  refine CallOk.of tysOk mixed od14 Tryz.func14 rfl rfl code14 ?_
  have k1 := ok10 awA (by decide) awF (by decide) 3
  rw [aw1, aw3] at k1
  have k2 := ok12 awA (by decide) (by decide) awE 3
  rw [aw2, aw4] at k2
  have k3 := ok16 awL awL (by decide) (by decide)
  have k4 := ok16 awM awM (by decide) (by decide)
  rw [eqL_refl] at k3 k4
  refine W.alt_l (W.alt_l ?_)
  refine W.pure k1 rfl rfl ?_
  refine W.alt_l ?_
  refine W.pure k2 rfl rfl ?_
  repeat (first | refine W.ite_t rfl ?_ | refine W.ite_f rfl ?_)
  refine W.alt_l ?_
  repeat (first | refine W.ite_t rfl ?_ | refine W.ite_f rfl ?_)
  refine W.pure k3 rfl rfl ?_
  repeat (first | refine W.ite_t rfl ?_ | refine W.ite_f rfl ?_)
  refine W.alt_l ?_
  repeat (first | refine W.ite_t rfl ?_ | refine W.ite_f rfl ?_)
  refine W.pure k4 rfl rfl ?_
  repeat (first | refine W.ite_t rfl ?_ | refine W.ite_f rfl ?_)
  exact W.ret (RetQ.pure rfl rfl)
end Go.Proofs.YtbjjimllnffcpaaGreatDoor.Gr
