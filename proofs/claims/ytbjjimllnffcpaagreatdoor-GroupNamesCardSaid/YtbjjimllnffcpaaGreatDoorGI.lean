import Derived.Test.YtbjjimllnffcpaaGreatDoorVV
set_option maxRecDepth 100000
set_option linter.unusedVariables false
set_option linter.unusedSimpArgs false
/- Numbers as texts, up to three digits. -/
namespace Go.Proofs.YtbjjimllnffcpaaGreatDoor.Va
open Go Go.Am
def od103 : Ords := []
theorem code103 : codeB Tryz.f103.ntmps od103 (match Tryz.f103.body with | some c => c | none => .skip) = true := by kernel_rfl
def od114 : Ords := []
theorem code114 : codeB Tryz.f114.ntmps od114 (match Tryz.f114.body with | some c => c | none => .skip) = true := by kernel_rfl
def od115 : Ords := []
theorem code115 : codeB Tryz.f115.ntmps od115 (match Tryz.f115.body with | some c => c | none => .skip) = true := by kernel_rfl
def od116 : Ords := []
theorem code116 : codeB Tryz.f116.ntmps od116 (match Tryz.f116.body with | some c => c | none => .skip) = true := by kernel_rfl
def od104 : Ords := []
theorem code104 : codeB Tryz.f104.ntmps od104 (match Tryz.f104.body with | some c => c | none => .skip) = true := by kernel_rfl
def od105 : Ords := [(7, [0, 1, 2, 3, 4, 5, 6, 7, 8, 9, 10, 11, 1012, 13, 1014]), (8, [0, 1, 2, 3, 4, 5, 6, 7, 8, 9, 10, 11, 1012, 13, 1014]), (9, [0, 1, 2, 3, 4, 5, 6, 7, 8, 9, 10, 11, 1012, 13, 1014]), (10, [0, 1, 2, 3, 4, 5, 6, 7, 8, 9, 10, 11, 1012, 13, 1014]), (17, [0, 1, 2, 3, 4, 5, 6, 7, 8, 9, 10, 11, 1012, 13, 1014]), (18, [0, 1, 2, 3, 4, 5, 6, 7, 8, 9, 10, 11, 1012, 13, 1014]), (23, [0, 1, 2, 3, 4, 5, 6, 7, 8, 9, 10, 11, 1012, 13, 1014])]
theorem code105 : codeB Tryz.f105.ntmps od105 (match Tryz.f105.body with | some c => c | none => .skip) = true := by kernel_rfl
def od94 : Ords := []
theorem code94 : codeB Tryz.f94.ntmps od94 (match Tryz.f94.body with | some c => c | none => .skip) = true := by kernel_rfl
def od78 : Ords := []
theorem code78 : codeB Tryz.f78.ntmps od78 (match Tryz.f78.body with | some c => c | none => .skip) = true := by kernel_rfl
def od49 : Ords := []
theorem code49 : codeB Tryz.f49.ntmps od49 (match Tryz.f49.body with | some c => c | none => .skip) = true := by kernel_rfl
def numS (n : Nat) : ByteArray :=
  if n < 10 then txt [UInt8.ofNat (48 + n)] else if n < 100 then txt [UInt8.ofNat (48 + n / 10), UInt8.ofNat (48 + n % 10)]
  else txt [UInt8.ofNat (48 + n / 100), UInt8.ofNat (48 + n / 10 % 10), UInt8.ofNat (48 + n % 10)]
abbrev uI (n : Int) : D := .lit (.int .u64 n)
theorem ret_sD {a b : ByteArray} (h : a = b) : mkRet [.d (.lit (.string a))] = .d (sD b) := by subst h; rfl
theorem ok103 (n : Nat) (h : n < 100) : Go.Am.Pure Tryz.prog 103 [.d (nI n)] (.d (sD (numS n))) := by
  refine CallOk.of tysOk mixed od103 Tryz.func103 rfl rfl code103 ?_
  have e1 : IntKind.i64.wrap ((n : Int) + 1) = ((n + 1 : Nat) : Int) := by rw [wrap64 (by omega) (by omega)]; rfl
  have e2 : IntKind.i64.wrap ((n : Int) * 2) = ((2 * n : Nat) : Int) := by rw [wrap64 (by omega) (by omega)]; omega
  have e3 : IntKind.i64.wrap (IntKind.i64.wrap ((n : Int) * 2) + 2) = ((2 * n + 2 : Nat) : Int) := by rw [e2, wrap64 (by omega) (by omega)]; rfl
  refine W.ite (fun c => ?_) (fun c => ?_)
  · have hn : n < 10 := by have := of_decide_eq_true c; omega
    refine W.need ⟨?_, ?_⟩ (W.need ⟨?_, ?_⟩ ?_)
    · rw [e1]; omega
    · rw [e1]; show ((n + 1 : Nat) : Int) ≤ ((36 : Nat) : Int); omega
    · omega
    · rw [e1]; omega
    refine W.ret (RetQ.pure rfl (ret_sD ?_))
    rw [e1]
    clear e1 e2 e3 c h
    simp only [Int.toNat_natCast]
    revert n
    decide +kernel
  · have hn : ¬ n < 10 := by have := of_decide_eq_false c; omega
    refine W.need ⟨?_, ?_⟩ (W.need ⟨?_, ?_⟩ ?_)
    · rw [e3]; omega
    · rw [e3]; show ((2 * n + 2 : Nat) : Int) ≤ ((200 : Nat) : Int); omega
    · rw [e2]; omega
    · rw [e3, e2]; omega
    refine W.ret (RetQ.pure rfl (ret_sD ?_))
    rw [e3, e2]
    clear e1 e2 e3 c
    simp only [Int.toNat_natCast]
    revert hn
    revert n
    decide +kernel
theorem ok114 (n : Nat) (h : n ≤ 64) : Go.Am.Pure Tryz.prog 114 [.d (nI n)] (.d (nI ((n * 78913 / 262144 : Nat) : Int))) := by
  refine CallOk.of tysOk mixed od114 Tryz.func114 rfl rfl code114 ?_
  refine W.need (by decide) ?_
  refine W.ret (RetQ.pure rfl (ret_nI ?_))
  rw [wrap64 (by omega) (by omega), Int.fdiv_eq_ediv_of_nonneg _ (by decide)]
  show ((n : Int) * 78913) / 2 ^ 18 = _
  omega
theorem ok116 (b : Bool) : Go.Am.Pure Tryz.prog 116 [.d (.lit (.bool b))] (.d (nI (if b then 1 else 0))) := by
  refine CallOk.of tysOk mixed od116 Tryz.func116 rfl rfl code116 ?_
  cases b
  · exact W.ite_f rfl (W.ret (RetQ.pure rfl rfl))
  · exact W.ite_t rfl (W.ret (RetQ.pure rfl rfl))
theorem ok115 (n : Nat) (h0 : 64 ≤ n) (h : n < 1000) : Go.Am.Pure Tryz.prog 115 [.d (uI n)] (.d (nI (if n < 128 then 7 else if n < 256 then 8 else if n < 512 then 9 else 10))) := by
  refine CallOk.of tysOk mixed od115 Tryz.func115 rfl rfl code115 ?_
  refine W.ite_f (decide_eq_false (by omega)) ?_
  refine W.ite_f (decide_eq_false (by omega)) ?_
  refine W.ite (fun c => ?_) (fun c => ?_)
  · have hn : 256 ≤ n := by have := of_decide_eq_true c; omega
    clear c
    refine W.need (by decide) ?_
    refine W.need ?_ ?_
    · revert hn h0
      revert n
      decide +kernel
    refine W.ret (RetQ.pure rfl (ret_nI ?_))
    revert hn h0
    revert n
    decide +kernel
  · have hn : n < 256 := by have := of_decide_eq_false c; omega
    clear c h
    refine W.need ?_ ?_
    · revert h0
      revert n
      decide +kernel
    refine W.ret (RetQ.pure rfl (ret_nI ?_))
    revert h0
    revert n
    decide +kernel
/-- Where the table of powers lies. -/
theorem pow10_glob (j : Nat) (h : j < 20) : glJ ⟨4, j, none⟩ (.int .u64 (10 ^ j)) := by first | exact ⟨j, h, rfl, rfl⟩ | exact .inr ⟨j, h, rfl, rfl⟩
theorem ok104 (n : Nat) (h0 : 100 ≤ n) (h : n < 1000) : Go.Am.Pure Tryz.prog 104 [.d (uI n)] (.d (nI 3)) := by
  refine CallOk.of tysOk mixed od104 Tryz.func104 rfl rfl code104 ?_
  refine W.pure (ok115 n (by omega) h) rfl rfl ?_
  obtain ⟨k, hk, hk2⟩ : ∃ k : Nat, (if n < 128 then 7 else if n < 256 then 8 else if n < 512 then 9 else 10 : Int) = k ∧ k ≤ 64 ∧ k * 78913 / 262144 = if n < 512 then 2 else 3 := by
    by_cases h1 : n < 128
    · exact ⟨7, by simp [h1], by omega, by simp [show n < 512 by omega]⟩
    · by_cases h2 : n < 256
      · exact ⟨8, by simp [h1, h2], by omega, by simp [show n < 512 by omega]⟩
      · by_cases h3 : n < 512
        · exact ⟨9, by simp [h1, h2, h3], by omega, by simp [h3]⟩
        · exact ⟨10, by simp [h1, h2, h3], by omega, by simp [h3]⟩
  rw [hk]
  refine W.pure (ok114 k hk2.1) rfl rfl ?_
  rw [hk2.2]
  by_cases h3 : n < 512
  · rw [if_pos h3]
    refine W.need ⟨by decide, by decide⟩ ?_
    refine W.glob (.int .u64 (10 ^ 2)) (pow10_glob 2 (by decide)) ?_
    refine W.pure (ok116 _) rfl rfl ?_
    refine W.ret (RetQ.pure rfl (ret_nI ?_))
    have : decide ((n : Int) ≥ 10 ^ 2) = true := decide_eq_true (by omega)
    rw [this]
    rfl
  · rw [if_neg h3]
    refine W.need ⟨by decide, by decide⟩ ?_
    refine W.glob (.int .u64 (10 ^ 3)) (pow10_glob 3 (by decide)) ?_
    refine W.pure (ok116 _) rfl rfl ?_
    refine W.ret (RetQ.pure rfl (ret_nI ?_))
    have : decide ((n : Int) ≥ 10 ^ 3) = false := decide_eq_false (by omega)
    rw [this]
    rfl
abbrev bC (n : Nat) : AV := .d (.lit (.int .u8 n))
abbrev zC : AV := .d (.lit (.int .u8 0))
abbrev arr24 (a b c : AV) : List AV := [zC, a, b, c, zC, zC, zC, zC, zC, zC, zC, zC, zC, zC, zC, zC, zC, zC, zC, zC, zC, zC, zC, zC]
theorem ok105 (n : Nat) (h0 : 100 ≤ n) (h : n < 1000) : CallOk Tryz.prog 105 [.win 0 1 3, .d (uI n)] [.var (arr24 zC zC zC)]
    (fun v s => v = .tuple [] ∧ s = [.var (arr24 (bC (48 + n / 100)) (bC (48 + n / 10 % 10)) (bC (48 + n % 10)))]) := by
  refine CallOk.of tysOk mixed od105 Tryz.func105 rfl rfl code105 ?_
  refine W.loop (fun k fr σ => fr = [(0, .win 0 1 3), (1, .d (uI n)), (4, .d (nI 3))] ∧ σ = [.var (arr24 zC zC zC)]) 0
    (Start.of [0, 1, 4] [] (by simp)) ⟨rfl, rfl⟩ ?_
  rintro k fr σ ⟨rfl, rfl⟩
  refine W.ite_f rfl ?_
  refine W.ret ?_
  refine W.ite_f rfl ?_
  refine W.ite_t rfl ?_
  refine W.need (by decide) ?_
  refine W.need (by decide) ?_
  refine W.need (by revert h0; revert h; revert n; decide +kernel) ?_
  refine W.need (by revert h0; revert h; revert n; decide +kernel) ?_
  refine W.need (by decide) ?_
  refine W.need (by decide) ?_
  refine W.ite_t rfl ?_
  refine W.need (by decide) ?_
  refine W.ret (RetQ.all ⟨rfl, ?_⟩)
  have e1 : ∀ {a b c a' b' c' : AV}, a = a' → b = b' → c = c' → [Blk.var (arr24 a b c)] = [Blk.var (arr24 a' b' c')] := fun h1 h2 h3 => by rw [h1, h2, h3]
  have e2 : ∀ {a b : Int}, a = b → (AV.d (.lit (.int .u8 a))) = .d (.lit (.int .u8 b)) := fun h => by rw [h]
  refine e1 (e2 ?_) (e2 ?_) (e2 ?_)
  · revert h0; revert h; revert n; decide +kernel
  · revert h0; revert h; revert n; decide +kernel
  · revert h0; revert h; revert n; decide +kernel
theorem u64n (n : Nat) (h : n < 1000) : IntKind.u64.wrap (n : Int) = n := by
  revert h; revert n; decide +kernel
end Go.Proofs.YtbjjimllnffcpaaGreatDoor.Va
