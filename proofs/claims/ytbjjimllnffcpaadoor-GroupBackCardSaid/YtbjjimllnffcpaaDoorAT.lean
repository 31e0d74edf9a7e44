import Derived.Test.YtbjjimllnffcpaaDoorSP
set_option maxRecDepth 100000
set_option linter.unusedVariables false
set_option linter.unusedSimpArgs false
/- strconv.Atoi of digits. -/
namespace Go.Proofs.YtbjjimllnffcpaaDoor.Gr
open Go Go.Am Va
def od52 : Ords := []
theorem code52 : codeB Tryd.f52.ntmps od52 (match Tryd.f52.body with | some c => c | none => .skip) = true := by kernel_rfl
def od41 : Ords := []
theorem code41 : codeB Tryd.f41.ntmps od41 (match Tryd.f41.body with | some c => c | none => .skip) = true := by kernel_rfl
def bC (b : UInt8) : List D := [b8 b]
theorem bC_len (b : UInt8) : (bC b).length = 1 := rfl
theorem bytes_flat (l : List UInt8) : (l.map fun b => D.lit (.int .u8 (b.toNat : Int))) = flat bC l := by
  induction l with
  | nil => rfl
  | cons b r ih => simp only [List.map_cons, flat, bC, List.singleton_append]; rw [ih]
theorem bE {l : List UInt8} {i : Nat} {b : UInt8} (h : l[i]? = some b) : Elem (flat bC l) [.int .u8] (i * 1) 1 [b8 b] := Elem.all bC_len h _ rfl ⟨rfl, True.intro⟩ rfl
def dgs (l : List UInt8) : Prop := ∀ b ∈ l, 48 ≤ b.toNat ∧ b.toNat ≤ 57
theorem valD_snoc (l : List UInt8) (b : UInt8) : valD (l ++ [b]) = 10 * valD l + (b.toNat - 48) := by unfold valD; rw [List.foldl_append]; rfl
theorem valD_lt : ∀ (n : Nat) (l : List UInt8), l.length = n → dgs l → valD l < 10 ^ n
  | 0, l, h, _ => by
    obtain rfl := List.eq_nil_of_length_eq_zero h
    decide
  | n + 1, l, h, hd => by
    obtain ⟨l', b, rfl⟩ : ∃ l' b, l = l' ++ [b] := ⟨l.dropLast, l.getLast (by intro e; rw [e] at h; simp at h), (List.dropLast_concat_getLast _).symm⟩
    have h1 := valD_lt n l' (by simpa using h) fun x hx => hd x (by simp [hx])
    have h2 := hd b (by simp)
    rw [valD_snoc, Nat.pow_succ]
    omega
theorem pow10_le {n : Nat} (h : n ≤ 18) : 10 ^ n ≤ 1000000000000000000 := Nat.le_trans (Nat.pow_le_pow_right (by decide) h) (by decide)
theorem byte0 {s : ByteArray} {b : UInt8} {r : List UInt8} (h : s.data.toList = b :: r) : s.data.getD 0 0 = b := by
  have : s.data.toList[0]? = some b := by rw [h]; rfl
  rw [Array.getElem?_toList] at this
  rw [Array.getD_eq_getD_getElem?, this]
  rfl
set_option maxHeartbeats 4000000 in
theorem ok52 (s : ByteArray) (h1 : 1 ≤ s.size) (h2 : s.size ≤ 18) (hd : dgs s.data.toList) : Go.Am.Pure Tryd.prog 52 [.d (sD s)] (.tuple [.d (nI (valD s.data.toList)), .d (.lit .nilIface)]) := by
  refine CallOk.of tysOk mixed od52 Tryd.func52 rfl rfl code52 ?_
  have hsz : s.data.toList.length = s.size := by rw [Array.length_toList]; rfl
  obtain ⟨b, r, hbr⟩ : ∃ b r, s.data.toList = b :: r := by
    cases hl : s.data.toList with
    | nil => rw [hl] at hsz; simp at hsz; omega
    | cons b r => exact ⟨b, r, rfl⟩
  have hb := hd b (by rw [hbr]; simp)
  have hb0 := byte0 hbr
  have c1 : decide ((0 : Int) < (s.size : Int)) = true := decide_eq_true (by omega)
  have c2 : decide ((s.size : Int) < 19) = true := decide_eq_true (by omega)
  have c3 : (((s.data.getD (0 : Int).toNat 0).toNat : Int) == 45) = false := by
    show (((s.data.getD 0 0).toNat : Int) == 45) = false
    rw [hb0]; exact beq_eq_false_iff_ne.2 (by omega)
  have c4 : (((s.data.getD (0 : Int).toNat 0).toNat : Int) == 43) = false := by
    show (((s.data.getD 0 0).toNat : Int) == 43) = false
    rw [hb0]; exact beq_eq_false_iff_ne.2 (by omega)
  have i0 : (0 : Int) ≤ 0 ∧ (0 : Int) < (s.size : Int) := ⟨by omega, by omega⟩
  repeat (first | refine W.ite_t c1 ?_ | refine W.ite_t c2 ?_ | refine W.ite_t rfl ?_ | refine W.ite_f rfl ?_)
  refine W.need i0 ?_
  repeat (first | refine W.ite_f c3 ?_ | refine W.ite_t rfl ?_ | refine W.ite_f rfl ?_)
  refine W.need i0 ?_
  repeat (first | refine W.ite_f c3 ?_ | refine W.ite_f c4 ?_ | refine W.ite_t rfl ?_ | refine W.ite_f rfl ?_)
  refine W.need rfl ?_
  refine W.loop (fun k fr σ => ∃ i : Nat, fr = [(5, .d (sD s)), (6, .d (nI (valD (s.data.toList.take i)))), (47, .d (.sl s.size (flat bC s.data.toList))), (48, .d (nI s.size)), (49, .d (nI i))] ∧ σ = [] ∧ i ≤ s.size ∧ k = s.size - i) s.size
    (Start.of [5, 6, 47, 48, 49] [] (by simp)) ⟨0, by rw [← bytes_flat]; rfl, rfl, Nat.zero_le _, rfl⟩ ?_
  rintro k fr σ ⟨i, rfl, rfl, hi, rfl⟩
  by_cases hlt : i < s.size
  · obtain ⟨x, hx⟩ : ∃ x, s.data.toList[i]? = some x := ⟨_, List.getElem?_eq_getElem (by omega)⟩
    have hxd := hd x (List.mem_of_getElem? hx)
    have hv : valD (s.data.toList.take i) < 100000000000000000 := by
      have h3 := valD_lt i (s.data.toList.take i) (by rw [List.length_take]; omega) fun y hy => hd y (List.mem_of_mem_take hy)
      have h4 : (10 : Nat) ^ i ≤ 10 ^ 17 := Nat.pow_le_pow_right (by decide) (by omega)
      have h5 : (10 : Nat) ^ 17 = 100000000000000000 := by decide
      omega
    have hn : valD (s.data.toList.take (i + 1)) = 10 * valD (s.data.toList.take i) + (x.toNat - 48) := by
      rw [List.take_add_one, hx]
      exact valD_snoc _ x
    have e1 : IntKind.u8.wrap ((x.toNat : Int) - 48) = ((x.toNat - 48 : Nat) : Int) := by
      rw [show IntKind.u8.wrap ((x.toNat : Int) - 48) = (if (false && decide (((x.toNat : Int) - 48) % (2 ^ 8 : Int) ≥ (2 ^ 7 : Int))) = true then ((x.toNat : Int) - 48) % (2 ^ 8 : Int) - (2 ^ 8 : Int) else ((x.toNat : Int) - 48) % (2 ^ 8 : Int)) from rfl]
      rw [if_neg (by simp)]
      have e8 : (2 : Int) ^ 8 = 256 := by decide
      rw [e8]; omega
    have gi : IntKind.i64.wrap ((i : Int) + 1) = ((i + 1 : Nat) : Int) := by rw [wrap64 (by omega) (by omega)]; rfl
    have e2 : IntKind.i64.wrap (IntKind.i64.wrap ((valD (s.data.toList.take i) : Nat) * 10 : Int) + IntKind.i64.wrap (IntKind.u8.wrap ((x.toNat : Int) - 48))) = ((valD (s.data.toList.take (i + 1)) : Nat) : Int) := by
      rw [e1, wrap64 (n := ((valD (s.data.toList.take i) : Nat) * 10 : Int)) (by omega) (by omega), wrap64 (n := ((x.toNat - 48 : Nat) : Int)) (by omega) (by omega), wrap64 (by omega) (by omega), hn]
      omega
    refine W.ite_t (decide_eq_true (by omega)) ?_
    refine W.need (by rw [← hsz]; exact ix_ok bC_len (by decide) (by omega)) ?_
    refine W.ld (bE hx) ?_
    refine W.ite_f (decide_eq_false (by rw [e1]; omega)) ?_
    refine W.ret ⟨_, _, _, ?_, Trim.of [5, 6, 47, 48, 49] [] (by decide) (by simp) (by simp), i + 1, ?_, rfl, by omega, rfl⟩
    · omega
    · rw [← gi, ← e2]; rfl
  · obtain rfl : i = s.size := by omega
    refine W.ite_f (decide_eq_false (by omega)) ?_
    refine W.ret ?_
    refine W.need i0 ?_
    refine W.ite_f c3 ?_
    rw [← hsz, List.take_length]
    exact W.ret (RetQ.pure rfl rfl)
theorem ok41 (s : ByteArray) (h1 : 1 ≤ s.size) (h2 : s.size ≤ 18) (hd : dgs s.data.toList) : Go.Am.Pure Tryd.prog 41 [.d (sD s)] (.tuple [.d (nI (valD s.data.toList)), .d (.lit .nilIface)]) := by
  refine CallOk.of tysOk mixed od41 Tryd.func41 rfl rfl code41 ?_
  refine W.pure (ok52 s h1 h2 hd) rfl rfl ?_
  repeat (first | refine W.ite_t rfl ?_ | refine W.ite_f rfl ?_)
  exact W.ret (RetQ.pure rfl rfl)
theorem numS_dgs : ∀ n, n < 1000 → dgs (numS n).data.toList := by
  have : ∀ n, n < 1000 → (numS n).data.toList.all (fun b => decide (48 ≤ b.toNat ∧ b.toNat ≤ 57)) = true := by decide +kernel
  intro n hn b hb
  have := List.all_eq_true.1 (this n hn) b hb
  simpa using this
theorem numS_one (n : Nat) : 1 ≤ (numS n).size := by
  unfold numS
  split
  · show 1 ≤ 1; decide
  · split
    · show 1 ≤ 2; decide
    · show 1 ≤ 3; decide
theorem okAtoiS (n : Nat) (h : n < 1000) : Go.Am.Pure Tryd.prog 41 [.d (sD (numS n))] (.tuple [.d (nI n), .d (.lit .nilIface)]) := by
  have := ok41 (numS n) (numS_one n) (Nat.le_trans (numS_size n) (by decide)) (numS_dgs n h)
  rwa [numS_val n h] at this
end Go.Proofs.YtbjjimllnffcpaaDoor.Gr
