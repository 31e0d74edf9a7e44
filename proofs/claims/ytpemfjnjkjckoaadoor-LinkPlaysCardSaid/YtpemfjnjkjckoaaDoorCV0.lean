import Derived.Test.YtpemfjnjkjckoaaDoorCQ
set_option maxRecDepth 100000
set_option linter.unusedVariables false
set_option linter.unusedSimpArgs false
namespace Go.Proofs.YtpemfjnjkjckoaaDoor.Co
open Go Go.Am
def od47 : Ords := [(3, [0, 1, 2, 3, 6, 7, 2001, 4, 5, 8, 9, 10]), (2001, [8, 4, 5, 9, 10])]
theorem code47 : codeB Tryd.f47.ntmps od47 (match Tryd.f47.body with | some c => c | none => .skip) = true := by kernel_rfl
def od38 : Ords := []
theorem code38 : codeB Tryd.f38.ntmps od38 (match Tryd.f38.body with | some c => c | none => .skip) = true := by kernel_rfl
def od39 : Ords := []
theorem code39 : codeB Tryd.f39.ntmps od39 (match Tryd.f39.body with | some c => c | none => .skip) = true := by kernel_rfl
/-! ### the reference writes -/
abbrev bA (l : List UInt8) : ByteArray := ⟨l.toArray⟩
theorem bA_append (a b : List UInt8) : bA a ++ bA b = bA (a ++ b) := by
  apply ByteArray.ext
  simp
theorem bA_data (s : ByteArray) : bA s.data.toList = s := by
  apply ByteArray.ext
  simp
theorem bA_size (l : List UInt8) : (bA l).size = l.length := rfl
theorem oneByte (b : UInt8) : bytesOf [bC b] = bA [b] := bytesOf_bc [b]
theorem oneIs (b : UInt8) : ∀ c ∈ [bC b], isByte c := bc_byte [b]
theorem cellR (n : Nat) : D.lit (.int .u8 (IntKind.u8.wrap (IntKind.u64.wrap (128 + (n : Int).tmod 128)))) = bC (UInt8.ofNat (128 + n % 128)) := by
  rw [show ((n : Int).tmod 128) = ((n % 128 : Nat) : Int) from rfl, show (128 : Int) + ((n % 128 : Nat) : Int) = ((128 + n % 128 : Nat) : Int) from by omega, wrapNat (by omega), wrap8]
  show D.lit (.int .u8 _) = D.lit (.int .u8 (((UInt8.ofNat (128 + n % 128)).toNat : Nat) : Int))
  rw [UInt8.toNat_ofNat']
  rfl
theorem maxI : IntKind.i64.max = 9223372036854775807 := by decide
theorem ok47k : ∀ (k n : Nat), n < k → n < 18446744073709551616 → Go.Am.Pure Tryd.prog 47 [.d (uI n)] (.d (sD (bA (enc n))))
  | k + 1, n, hk, hn => by
    refine CallOk.of tysOk mixed od47 Tryd.func47 rfl rfl code47 ?_
    refine W.ite (fun c => ?_) (fun c => ?_)
    · have h : ¬ n > 127 := by have := of_decide_eq_true c; omega
      have hc := cellSmall h
      refine W.alt_l ?_
      refine W.need ⟨rfl, rfl, ?_⟩ ?_
      · intro x hx
        rw [List.mem_singleton] at hx
        subst hx
        rw [hc]
        exact oneIs _ _ (List.mem_singleton.2 rfl)
      refine W.ret (RetQ.pure rfl ?_)
      show AV.d (sD (bytesOf [D.lit (.int .u8 (IntKind.u8.wrap (n : Int)))])) = _
      rw [hc, oneByte, enc_small h]
    · have h : n > 127 := by have := of_decide_eq_false c; omega
      have hc := cellR n
      have ih := ok47k k (n / 128) (by omega) (by omega)
      have hq : uI (n / 128) = .lit (.int .u64 (IntKind.u64.wrap ((n : Int).tdiv 128))) := by
        show D.lit (.int .u64 _) = _
        rw [show ((n : Int).tdiv 128) = ((n / 128 : Nat) : Int) from rfl, wrapNat (by omega)]
      rw [hq] at ih
      have hl := enc_len10 (n := n / 128) (by omega)
      have his : ∀ x ∈ [D.lit (.int .u8 (IntKind.u8.wrap (IntKind.u64.wrap (128 + (n : Int).tmod 128))))], isByte x := fun x hx => by
        rw [List.mem_singleton] at hx
        subst hx
        rw [hc]
        exact oneIs _ _ (List.mem_singleton.2 rfl)
      have hsz : (((bytesOf [D.lit (.int .u8 (IntKind.u8.wrap (IntKind.u64.wrap (128 + (n : Int).tmod 128))))]).size + (bA (enc (n / 128))).size : Nat) : Int) ≤ IntKind.i64.max := by
        rw [hc, oneByte, bA_size, bA_size, maxI]
        simp only [List.length_cons, List.length_nil]
        omega
      have fin : AV.d (sD (bytesOf [D.lit (.int .u8 (IntKind.u8.wrap (IntKind.u64.wrap (128 + (n : Int).tmod 128))))] ++ bA (enc (n / 128)))) = AV.d (sD (bA (enc n))) := by
        rw [hc, oneByte, bA_append, enc_big h]
        rfl
      refine W.need (by decide) ?_
      refine W.need (by decide) ?_
      refine W.both ?_ ?_
      · refine W.alt_l ?_
        refine W.need ⟨rfl, rfl, his⟩ ?_
        refine W.pure ih rfl rfl ?_
        refine W.need hsz ?_
        exact W.ret (RetQ.pure rfl fin)
      · refine W.pure ih rfl rfl ?_
        refine W.alt_l ?_
        refine W.need ⟨rfl, rfl, his⟩ ?_
        refine W.need hsz ?_
        exact W.ret (RetQ.pure rfl fin)
theorem ok47 (n : Nat) (hn : n < 18446744073709551616) : Go.Am.Pure Tryd.prog 47 [.d (uI n)] (.d (sD (bA (enc n)))) := ok47k (n + 1) n (by omega) hn
theorem ok38 (a : Int) (h1 : -9223372036854775808 ≤ a) (h2 : a < 9223372036854775808) : Go.Am.Pure Tryd.prog 38 [.d (nI a)] (.d (sD (bA (enc (zz a))))) := by
  refine CallOk.of tysOk mixed od38 Tryd.func38 rfl rfl code38 ?_
  have k := ok47 (zz a) (zz_lt h1 h2)
  refine W.ite (fun c => ?_) (fun c => ?_)
  · have h : a ≥ 0 := of_decide_eq_true c
    have hz : uI (zz a) = .lit (.int .u64 (IntKind.u64.wrap (2 * IntKind.u64.wrap a))) := by
      show D.lit (.int .u64 _) = _
      unfold zz
      rw [if_pos h, wrapU (n := a) (by omega) (by omega), wrapU (by omega) (by omega), Int.toNat_of_nonneg (by omega)]
    rw [hz] at k
    refine W.pure k rfl rfl ?_
    exact W.ret (RetQ.pure rfl rfl)
  · have h : ¬ a ≥ 0 := of_decide_eq_false c
    have hz : uI (zz a) = .lit (.int .u64 (IntKind.u64.wrap (IntKind.u64.wrap (2 * IntKind.u64.wrap (IntKind.i64.wrap (0 - IntKind.i64.wrap (a + 1)))) + 1))) := by
      show D.lit (.int .u64 _) = _
      unfold zz
      rw [if_neg h, wrap64 (n := a + 1) (by omega) (by omega), wrap64 (by omega) (by omega), wrapU (n := 0 - (a + 1)) (by omega) (by omega), wrapU (n := 2 * _) (by omega) (by omega), wrapU (by omega) (by omega), Int.toNat_of_nonneg (by omega)]
      congr 2
      omega
    rw [hz] at k
    refine W.pure k rfl rfl ?_
    exact W.ret (RetQ.pure rfl rfl)
theorem ok39 (s : ByteArray) (hs : s.size ≤ 4611686018427387904) : Go.Am.Pure Tryd.prog 39 [.d (sD s)] (.d (sD (bA (encT s)))) := by
  refine CallOk.of tysOk mixed od39 Tryd.func39 rfl rfl code39 ?_
  have k := ok47 s.size (by omega)
  have hu : uI s.size = .lit (.int .u64 (IntKind.u64.wrap (s.size : Int))) := by
    show D.lit (.int .u64 _) = _
    rw [wrapNat (by omega)]
  rw [hu] at k
  have hl := enc_len10 (n := s.size) (by omega)
  refine W.pure k rfl rfl ?_
  refine W.need ?_ ?_
  · rw [bA_size, maxI]; omega
  refine W.ret (RetQ.pure rfl ?_)
  show AV.d (sD (bA (enc s.size) ++ s)) = _
  have := bA_append (enc s.size) s.data.toList
  rw [bA_data] at this
  rw [this]
  rfl
end Go.Proofs.YtpemfjnjkjckoaaDoor.Co
