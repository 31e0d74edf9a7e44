import Derived.Test.YtbjjimllnffcpaaGreatDoorIU
import Derived.Test.YtbjjimllnffcpaaGreatDoorGJ
set_option maxRecDepth 100000
set_option linter.unusedVariables false
set_option linter.unusedSimpArgs false
/- strconv.Itoa of every int. -/
namespace Go.Proofs.YtbjjimllnffcpaaGreatDoor.Va
open Go Go.Am
theorem negw (u : Nat) (h : u < 18446744073709551616) : IntKind.u64.wrap (0 - IntKind.u64.wrap (-(u : Int))) = (u : Int) := by
  unfold IntKind.wrap
  simp [IntKind.bits, IntKind.signed]
  omega
theorem isB (u e : Nat) : isByte (D.lit (.int .u8 ((48 + u / e % 10 : Nat) : Int))) := ⟨rfl, by simp only [D.toI]; omega, by simp only [D.toI]; omega⟩
theorem isB45 : isByte (D.lit (.int .u8 45)) := ⟨rfl, by decide, by decide⟩
theorem fmtP3 (u : Nat) (h1 : 100 ≤ u) (hu : u < 1000) (hl : 100 ≤ u) : Go.Am.Pure Tryz.prog 94 [.d (nI (u : Int)), .d (nI 10)] (.d (sD (itS (u : Int)))) := by
  refine CallOk.of tysOk mixed od94 Tryz.func94 rfl rfl code94 ?_
  have hd : Lib.nDigits u = 3 := Lib.nDigits_unique 2 u (by simpa using hl) (by simpa using hu)
  have g0 : decide ((0 : Int) ≤ u) = true := decide_eq_true (by omega)
  have g1 : decide ((u : Int) < 100) = false := decide_eq_false (by omega)
  have g2 : decide ((u : Int) < 0) = false := decide_eq_false (by omega)
  repeat (first | refine W.ite_t rfl ?_ | refine W.ite_f rfl ?_ | refine W.ite_t g0 ?_ | refine W.ite_f g1 ?_ | refine W.ite_f g2 ?_)
  rw [w64u u (by omega)]
  have kd := ok104' u 3 (by omega) (by decide) (by simpa using hl) (by simpa using hu)
  have kb := ok105_3 u hu
  refine W.pure kd rfl rfl ?_
  refine W.need (by decide) (W.need (by decide) ?_)
  refine W.callT [0] kb (by decide) rfl rfl rfl rfl ?_
  rintro v σ ⟨rfl, rfl⟩
  repeat (first | refine W.ite_t rfl ?_ | refine W.ite_f rfl ?_ | refine W.ite_t g0 ?_ | refine W.ite_f g1 ?_ | refine W.ite_f g2 ?_)
  refine W.need (by decide) (W.need (by decide) ?_)
  have hb : ∀ c ∈ [D.lit (.int .u8 ((48 + u / 100 % 10 : Nat) : Int)), D.lit (.int .u8 ((48 + u / 10 % 10 : Nat) : Int)), D.lit (.int .u8 ((48 + u / 1 % 10 : Nat) : Int))], isByte c := by
    intro c hc
    simp only [List.mem_cons, List.mem_nil_iff, or_false] at hc
    rcases hc with rfl | rfl | rfl
    · exact isB u _
    · exact isB u _
    · exact isB u _
  refine W.need ⟨rfl, hb⟩ ?_
  refine W.ret (RetQ.pure rfl (ret_sD ?_))
  unfold itS Lib.itoa
  rw [if_neg (by omega), Int.toNat_natCast, digs_dec _ u hd]
  rfl
theorem fmtP4 (u : Nat) (h1 : 100 ≤ u) (hu : u < 10000) (hl : 1000 ≤ u) : Go.Am.Pure Tryz.prog 94 [.d (nI (u : Int)), .d (nI 10)] (.d (sD (itS (u : Int)))) := by
  refine CallOk.of tysOk mixed od94 Tryz.func94 rfl rfl code94 ?_
  have hd : Lib.nDigits u = 4 := Lib.nDigits_unique 3 u (by simpa using hl) (by simpa using hu)
  have g0 : decide ((0 : Int) ≤ u) = true := decide_eq_true (by omega)
  have g1 : decide ((u : Int) < 100) = false := decide_eq_false (by omega)
  have g2 : decide ((u : Int) < 0) = false := decide_eq_false (by omega)
  repeat (first | refine W.ite_t rfl ?_ | refine W.ite_f rfl ?_ | refine W.ite_t g0 ?_ | refine W.ite_f g1 ?_ | refine W.ite_f g2 ?_)
  rw [w64u u (by omega)]
  have kd := ok104' u 4 (by omega) (by decide) (by simpa using hl) (by simpa using hu)
  have kb := ok105_4 u hu
  refine W.pure kd rfl rfl ?_
  refine W.need (by decide) (W.need (by decide) ?_)
  refine W.callT [0] kb (by decide) rfl rfl rfl rfl ?_
  rintro v σ ⟨rfl, rfl⟩
  repeat (first | refine W.ite_t rfl ?_ | refine W.ite_f rfl ?_ | refine W.ite_t g0 ?_ | refine W.ite_f g1 ?_ | refine W.ite_f g2 ?_)
  refine W.need (by decide) (W.need (by decide) ?_)
  have hb : ∀ c ∈ [D.lit (.int .u8 ((48 + u / 1000 % 10 : Nat) : Int)), D.lit (.int .u8 ((48 + u / 100 % 10 : Nat) : Int)), D.lit (.int .u8 ((48 + u / 10 % 10 : Nat) : Int)), D.lit (.int .u8 ((48 + u / 1 % 10 : Nat) : Int))], isByte c := by
    intro c hc
    simp only [List.mem_cons, List.mem_nil_iff, or_false] at hc
    rcases hc with rfl | rfl | rfl | rfl
    · exact isB u _
    · exact isB u _
    · exact isB u _
    · exact isB u _
  refine W.need ⟨rfl, hb⟩ ?_
  refine W.ret (RetQ.pure rfl (ret_sD ?_))
  unfold itS Lib.itoa
  rw [if_neg (by omega), Int.toNat_natCast, digs_dec _ u hd]
  rfl
theorem fmtP5 (u : Nat) (h1 : 100 ≤ u) (hu : u < 100000) (hl : 10000 ≤ u) : Go.Am.Pure Tryz.prog 94 [.d (nI (u : Int)), .d (nI 10)] (.d (sD (itS (u : Int)))) := by
  refine CallOk.of tysOk mixed od94 Tryz.func94 rfl rfl code94 ?_
  have hd : Lib.nDigits u = 5 := Lib.nDigits_unique 4 u (by simpa using hl) (by simpa using hu)
  have g0 : decide ((0 : Int) ≤ u) = true := decide_eq_true (by omega)
  have g1 : decide ((u : Int) < 100) = false := decide_eq_false (by omega)
  have g2 : decide ((u : Int) < 0) = false := decide_eq_false (by omega)
  repeat (first | refine W.ite_t rfl ?_ | refine W.ite_f rfl ?_ | refine W.ite_t g0 ?_ | refine W.ite_f g1 ?_ | refine W.ite_f g2 ?_)
  rw [w64u u (by omega)]
  have kd := ok104' u 5 (by omega) (by decide) (by simpa using hl) (by simpa using hu)
  have kb := ok105_5 u hu
  refine W.pure kd rfl rfl ?_
  refine W.need (by decide) (W.need (by decide) ?_)
  refine W.callT [0] kb (by decide) rfl rfl rfl rfl ?_
  rintro v σ ⟨rfl, rfl⟩
  repeat (first | refine W.ite_t rfl ?_ | refine W.ite_f rfl ?_ | refine W.ite_t g0 ?_ | refine W.ite_f g1 ?_ | refine W.ite_f g2 ?_)
  refine W.need (by decide) (W.need (by decide) ?_)
  have hb : ∀ c ∈ [D.lit (.int .u8 ((48 + u / 10000 % 10 : Nat) : Int)), D.lit (.int .u8 ((48 + u / 1000 % 10 : Nat) : Int)), D.lit (.int .u8 ((48 + u / 100 % 10 : Nat) : Int)), D.lit (.int .u8 ((48 + u / 10 % 10 : Nat) : Int)), D.lit (.int .u8 ((48 + u / 1 % 10 : Nat) : Int))], isByte c := by
    intro c hc
    simp only [List.mem_cons, List.mem_nil_iff, or_false] at hc
    rcases hc with rfl | rfl | rfl | rfl | rfl
    · exact isB u _
    · exact isB u _
    · exact isB u _
    · exact isB u _
    · exact isB u _
  refine W.need ⟨rfl, hb⟩ ?_
  refine W.ret (RetQ.pure rfl (ret_sD ?_))
  unfold itS Lib.itoa
  rw [if_neg (by omega), Int.toNat_natCast, digs_dec _ u hd]
  rfl
theorem fmtP6 (u : Nat) (h1 : 100 ≤ u) (hu : u < 1000000) (hl : 100000 ≤ u) : Go.Am.Pure Tryz.prog 94 [.d (nI (u : Int)), .d (nI 10)] (.d (sD (itS (u : Int)))) := by
  refine CallOk.of tysOk mixed od94 Tryz.func94 rfl rfl code94 ?_
  have hd : Lib.nDigits u = 6 := Lib.nDigits_unique 5 u (by simpa using hl) (by simpa using hu)
  have g0 : decide ((0 : Int) ≤ u) = true := decide_eq_true (by omega)
  have g1 : decide ((u : Int) < 100) = false := decide_eq_false (by omega)
  have g2 : decide ((u : Int) < 0) = false := decide_eq_false (by omega)
  repeat (first | refine W.ite_t rfl ?_ | refine W.ite_f rfl ?_ | refine W.ite_t g0 ?_ | refine W.ite_f g1 ?_ | refine W.ite_f g2 ?_)
  rw [w64u u (by omega)]
  have kd := ok104' u 6 (by omega) (by decide) (by simpa using hl) (by simpa using hu)
  have kb := ok105_6 u hu
  refine W.pure kd rfl rfl ?_
  refine W.need (by decide) (W.need (by decide) ?_)
  refine W.callT [0] kb (by decide) rfl rfl rfl rfl ?_
  rintro v σ ⟨rfl, rfl⟩
  repeat (first | refine W.ite_t rfl ?_ | refine W.ite_f rfl ?_ | refine W.ite_t g0 ?_ | refine W.ite_f g1 ?_ | refine W.ite_f g2 ?_)
  refine W.need (by decide) (W.need (by decide) ?_)
  have hb : ∀ c ∈ [D.lit (.int .u8 ((48 + u / 100000 % 10 : Nat) : Int)), D.lit (.int .u8 ((48 + u / 10000 % 10 : Nat) : Int)), D.lit (.int .u8 ((48 + u / 1000 % 10 : Nat) : Int)), D.lit (.int .u8 ((48 + u / 100 % 10 : Nat) : Int)), D.lit (.int .u8 ((48 + u / 10 % 10 : Nat) : Int)), D.lit (.int .u8 ((48 + u / 1 % 10 : Nat) : Int))], isByte c := by
    intro c hc
    simp only [List.mem_cons, List.mem_nil_iff, or_false] at hc
    rcases hc with rfl | rfl | rfl | rfl | rfl | rfl
    · exact isB u _
    · exact isB u _
    · exact isB u _
    · exact isB u _
    · exact isB u _
    · exact isB u _
  refine W.need ⟨rfl, hb⟩ ?_
  refine W.ret (RetQ.pure rfl (ret_sD ?_))
  unfold itS Lib.itoa
  rw [if_neg (by omega), Int.toNat_natCast, digs_dec _ u hd]
  rfl
theorem fmtP7 (u : Nat) (h1 : 100 ≤ u) (hu : u < 10000000) (hl : 1000000 ≤ u) : Go.Am.Pure Tryz.prog 94 [.d (nI (u : Int)), .d (nI 10)] (.d (sD (itS (u : Int)))) := by
  refine CallOk.of tysOk mixed od94 Tryz.func94 rfl rfl code94 ?_
  have hd : Lib.nDigits u = 7 := Lib.nDigits_unique 6 u (by simpa using hl) (by simpa using hu)
  have g0 : decide ((0 : Int) ≤ u) = true := decide_eq_true (by omega)
  have g1 : decide ((u : Int) < 100) = false := decide_eq_false (by omega)
  have g2 : decide ((u : Int) < 0) = false := decide_eq_false (by omega)
  repeat (first | refine W.ite_t rfl ?_ | refine W.ite_f rfl ?_ | refine W.ite_t g0 ?_ | refine W.ite_f g1 ?_ | refine W.ite_f g2 ?_)
  rw [w64u u (by omega)]
  have kd := ok104' u 7 (by omega) (by decide) (by simpa using hl) (by simpa using hu)
  have kb := ok105_7 u hu
  refine W.pure kd rfl rfl ?_
  refine W.need (by decide) (W.need (by decide) ?_)
  refine W.callT [0] kb (by decide) rfl rfl rfl rfl ?_
  rintro v σ ⟨rfl, rfl⟩
  repeat (first | refine W.ite_t rfl ?_ | refine W.ite_f rfl ?_ | refine W.ite_t g0 ?_ | refine W.ite_f g1 ?_ | refine W.ite_f g2 ?_)
  refine W.need (by decide) (W.need (by decide) ?_)
  have hb : ∀ c ∈ [D.lit (.int .u8 ((48 + u / 1000000 % 10 : Nat) : Int)), D.lit (.int .u8 ((48 + u / 100000 % 10 : Nat) : Int)), D.lit (.int .u8 ((48 + u / 10000 % 10 : Nat) : Int)), D.lit (.int .u8 ((48 + u / 1000 % 10 : Nat) : Int)), D.lit (.int .u8 ((48 + u / 100 % 10 : Nat) : Int)), D.lit (.int .u8 ((48 + u / 10 % 10 : Nat) : Int)), D.lit (.int .u8 ((48 + u / 1 % 10 : Nat) : Int))], isByte c := by
    intro c hc
    simp only [List.mem_cons, List.mem_nil_iff, or_false] at hc
    rcases hc with rfl | rfl | rfl | rfl | rfl | rfl | rfl
    · exact isB u _
    · exact isB u _
    · exact isB u _
    · exact isB u _
    · exact isB u _
    · exact isB u _
    · exact isB u _
  refine W.need ⟨rfl, hb⟩ ?_
  refine W.ret (RetQ.pure rfl (ret_sD ?_))
  unfold itS Lib.itoa
  rw [if_neg (by omega), Int.toNat_natCast, digs_dec _ u hd]
  rfl
theorem fmtP8 (u : Nat) (h1 : 100 ≤ u) (hu : u < 100000000) (hl : 10000000 ≤ u) : Go.Am.Pure Tryz.prog 94 [.d (nI (u : Int)), .d (nI 10)] (.d (sD (itS (u : Int)))) := by
  refine CallOk.of tysOk mixed od94 Tryz.func94 rfl rfl code94 ?_
  have hd : Lib.nDigits u = 8 := Lib.nDigits_unique 7 u (by simpa using hl) (by simpa using hu)
  have g0 : decide ((0 : Int) ≤ u) = true := decide_eq_true (by omega)
  have g1 : decide ((u : Int) < 100) = false := decide_eq_false (by omega)
  have g2 : decide ((u : Int) < 0) = false := decide_eq_false (by omega)
  repeat (first | refine W.ite_t rfl ?_ | refine W.ite_f rfl ?_ | refine W.ite_t g0 ?_ | refine W.ite_f g1 ?_ | refine W.ite_f g2 ?_)
  rw [w64u u (by omega)]
  have kd := ok104' u 8 (by omega) (by decide) (by simpa using hl) (by simpa using hu)
  have kb := ok105_8 u hu
  refine W.pure kd rfl rfl ?_
  refine W.need (by decide) (W.need (by decide) ?_)
  refine W.callT [0] kb (by decide) rfl rfl rfl rfl ?_
  rintro v σ ⟨rfl, rfl⟩
  repeat (first | refine W.ite_t rfl ?_ | refine W.ite_f rfl ?_ | refine W.ite_t g0 ?_ | refine W.ite_f g1 ?_ | refine W.ite_f g2 ?_)
  refine W.need (by decide) (W.need (by decide) ?_)
  have hb : ∀ c ∈ [D.lit (.int .u8 ((48 + u / 10000000 % 10 : Nat) : Int)), D.lit (.int .u8 ((48 + u / 1000000 % 10 : Nat) : Int)), D.lit (.int .u8 ((48 + u / 100000 % 10 : Nat) : Int)), D.lit (.int .u8 ((48 + u / 10000 % 10 : Nat) : Int)), D.lit (.int .u8 ((48 + u / 1000 % 10 : Nat) : Int)), D.lit (.int .u8 ((48 + u / 100 % 10 : Nat) : Int)), D.lit (.int .u8 ((48 + u / 10 % 10 : Nat) : Int)), D.lit (.int .u8 ((48 + u / 1 % 10 : Nat) : Int))], isByte c := by
    intro c hc
    simp only [List.mem_cons, List.mem_nil_iff, or_false] at hc
    rcases hc with rfl | rfl | rfl | rfl | rfl | rfl | rfl | rfl
    · exact isB u _
    · exact isB u _
    · exact isB u _
    · exact isB u _
    · exact isB u _
    · exact isB u _
    · exact isB u _
    · exact isB u _
  refine W.need ⟨rfl, hb⟩ ?_
  refine W.ret (RetQ.pure rfl (ret_sD ?_))
  unfold itS Lib.itoa
  rw [if_neg (by omega), Int.toNat_natCast, digs_dec _ u hd]
  rfl
theorem fmtP9 (u : Nat) (h1 : 100 ≤ u) (hu : u < 1000000000) (hl : 100000000 ≤ u) : Go.Am.Pure Tryz.prog 94 [.d (nI (u : Int)), .d (nI 10)] (.d (sD (itS (u : Int)))) := by
  refine CallOk.of tysOk mixed od94 Tryz.func94 rfl rfl code94 ?_
  have hd : Lib.nDigits u = 9 := Lib.nDigits_unique 8 u (by simpa using hl) (by simpa using hu)
  have g0 : decide ((0 : Int) ≤ u) = true := decide_eq_true (by omega)
  have g1 : decide ((u : Int) < 100) = false := decide_eq_false (by omega)
  have g2 : decide ((u : Int) < 0) = false := decide_eq_false (by omega)
  repeat (first | refine W.ite_t rfl ?_ | refine W.ite_f rfl ?_ | refine W.ite_t g0 ?_ | refine W.ite_f g1 ?_ | refine W.ite_f g2 ?_)
  rw [w64u u (by omega)]
  have kd := ok104' u 9 (by omega) (by decide) (by simpa using hl) (by simpa using hu)
  have kb := ok105_9 u hu
  refine W.pure kd rfl rfl ?_
  refine W.need (by decide) (W.need (by decide) ?_)
  refine W.callT [0] kb (by decide) rfl rfl rfl rfl ?_
  rintro v σ ⟨rfl, rfl⟩
  repeat (first | refine W.ite_t rfl ?_ | refine W.ite_f rfl ?_ | refine W.ite_t g0 ?_ | refine W.ite_f g1 ?_ | refine W.ite_f g2 ?_)
  refine W.need (by decide) (W.need (by decide) ?_)
  have hb : ∀ c ∈ [D.lit (.int .u8 ((48 + u / 100000000 % 10 : Nat) : Int)), D.lit (.int .u8 ((48 + u / 10000000 % 10 : Nat) : Int)), D.lit (.int .u8 ((48 + u / 1000000 % 10 : Nat) : Int)), D.lit (.int .u8 ((48 + u / 100000 % 10 : Nat) : Int)), D.lit (.int .u8 ((48 + u / 10000 % 10 : Nat) : Int)), D.lit (.int .u8 ((48 + u / 1000 % 10 : Nat) : Int)), D.lit (.int .u8 ((48 + u / 100 % 10 : Nat) : Int)), D.lit (.int .u8 ((48 + u / 10 % 10 : Nat) : Int)), D.lit (.int .u8 ((48 + u / 1 % 10 : Nat) : Int))], isByte c := by
    intro c hc
    simp only [List.mem_cons, List.mem_nil_iff, or_false] at hc
    rcases hc with rfl | rfl | rfl | rfl | rfl | rfl | rfl | rfl | rfl
    · exact isB u _
    · exact isB u _
    · exact isB u _
    · exact isB u _
    · exact isB u _
    · exact isB u _
    · exact isB u _
    · exact isB u _
    · exact isB u _
  refine W.need ⟨rfl, hb⟩ ?_
  refine W.ret (RetQ.pure rfl (ret_sD ?_))
  unfold itS Lib.itoa
  rw [if_neg (by omega), Int.toNat_natCast, digs_dec _ u hd]
  rfl
theorem fmtP10 (u : Nat) (h1 : 100 ≤ u) (hu : u < 10000000000) (hl : 1000000000 ≤ u) : Go.Am.Pure Tryz.prog 94 [.d (nI (u : Int)), .d (nI 10)] (.d (sD (itS (u : Int)))) := by
  refine CallOk.of tysOk mixed od94 Tryz.func94 rfl rfl code94 ?_
  have hd : Lib.nDigits u = 10 := Lib.nDigits_unique 9 u (by simpa using hl) (by simpa using hu)
  have g0 : decide ((0 : Int) ≤ u) = true := decide_eq_true (by omega)
  have g1 : decide ((u : Int) < 100) = false := decide_eq_false (by omega)
  have g2 : decide ((u : Int) < 0) = false := decide_eq_false (by omega)
  repeat (first | refine W.ite_t rfl ?_ | refine W.ite_f rfl ?_ | refine W.ite_t g0 ?_ | refine W.ite_f g1 ?_ | refine W.ite_f g2 ?_)
  rw [w64u u (by omega)]
  have kd := ok104' u 10 (by omega) (by decide) (by simpa using hl) (by simpa using hu)
  have kb := ok105_10 u hu
  refine W.pure kd rfl rfl ?_
  refine W.need (by decide) (W.need (by decide) ?_)
  refine W.callT [0] kb (by decide) rfl rfl rfl rfl ?_
  rintro v σ ⟨rfl, rfl⟩
  repeat (first | refine W.ite_t rfl ?_ | refine W.ite_f rfl ?_ | refine W.ite_t g0 ?_ | refine W.ite_f g1 ?_ | refine W.ite_f g2 ?_)
  refine W.need (by decide) (W.need (by decide) ?_)
  have hb : ∀ c ∈ [D.lit (.int .u8 ((48 + u / 1000000000 % 10 : Nat) : Int)), D.lit (.int .u8 ((48 + u / 100000000 % 10 : Nat) : Int)), D.lit (.int .u8 ((48 + u / 10000000 % 10 : Nat) : Int)), D.lit (.int .u8 ((48 + u / 1000000 % 10 : Nat) : Int)), D.lit (.int .u8 ((48 + u / 100000 % 10 : Nat) : Int)), D.lit (.int .u8 ((48 + u / 10000 % 10 : Nat) : Int)), D.lit (.int .u8 ((48 + u / 1000 % 10 : Nat) : Int)), D.lit (.int .u8 ((48 + u / 100 % 10 : Nat) : Int)), D.lit (.int .u8 ((48 + u / 10 % 10 : Nat) : Int)), D.lit (.int .u8 ((48 + u / 1 % 10 : Nat) : Int))], isByte c := by
    intro c hc
    simp only [List.mem_cons, List.mem_nil_iff, or_false] at hc
    rcases hc with rfl | rfl | rfl | rfl | rfl | rfl | rfl | rfl | rfl | rfl
    · exact isB u _
    · exact isB u _
    · exact isB u _
    · exact isB u _
    · exact isB u _
    · exact isB u _
    · exact isB u _
    · exact isB u _
    · exact isB u _
    · exact isB u _
  refine W.need ⟨rfl, hb⟩ ?_
  refine W.ret (RetQ.pure rfl (ret_sD ?_))
  unfold itS Lib.itoa
  rw [if_neg (by omega), Int.toNat_natCast, digs_dec _ u hd]
  rfl
theorem fmtP11 (u : Nat) (h1 : 100 ≤ u) (hu : u < 100000000000) (hl : 10000000000 ≤ u) : Go.Am.Pure Tryz.prog 94 [.d (nI (u : Int)), .d (nI 10)] (.d (sD (itS (u : Int)))) := by
  refine CallOk.of tysOk mixed od94 Tryz.func94 rfl rfl code94 ?_
  have hd : Lib.nDigits u = 11 := Lib.nDigits_unique 10 u (by simpa using hl) (by simpa using hu)
  have g0 : decide ((0 : Int) ≤ u) = true := decide_eq_true (by omega)
  have g1 : decide ((u : Int) < 100) = false := decide_eq_false (by omega)
  have g2 : decide ((u : Int) < 0) = false := decide_eq_false (by omega)
  repeat (first | refine W.ite_t rfl ?_ | refine W.ite_f rfl ?_ | refine W.ite_t g0 ?_ | refine W.ite_f g1 ?_ | refine W.ite_f g2 ?_)
  rw [w64u u (by omega)]
  have kd := ok104' u 11 (by omega) (by decide) (by simpa using hl) (by simpa using hu)
  have kb := ok105_11 u hu
  refine W.pure kd rfl rfl ?_
  refine W.need (by decide) (W.need (by decide) ?_)
  refine W.callT [0] kb (by decide) rfl rfl rfl rfl ?_
  rintro v σ ⟨rfl, rfl⟩
  repeat (first | refine W.ite_t rfl ?_ | refine W.ite_f rfl ?_ | refine W.ite_t g0 ?_ | refine W.ite_f g1 ?_ | refine W.ite_f g2 ?_)
  refine W.need (by decide) (W.need (by decide) ?_)
  have hb : ∀ c ∈ [D.lit (.int .u8 ((48 + u / 10000000000 % 10 : Nat) : Int)), D.lit (.int .u8 ((48 + u / 1000000000 % 10 : Nat) : Int)), D.lit (.int .u8 ((48 + u / 100000000 % 10 : Nat) : Int)), D.lit (.int .u8 ((48 + u / 10000000 % 10 : Nat) : Int)), D.lit (.int .u8 ((48 + u / 1000000 % 10 : Nat) : Int)), D.lit (.int .u8 ((48 + u / 100000 % 10 : Nat) : Int)), D.lit (.int .u8 ((48 + u / 10000 % 10 : Nat) : Int)), D.lit (.int .u8 ((48 + u / 1000 % 10 : Nat) : Int)), D.lit (.int .u8 ((48 + u / 100 % 10 : Nat) : Int)), D.lit (.int .u8 ((48 + u / 10 % 10 : Nat) : Int)), D.lit (.int .u8 ((48 + u / 1 % 10 : Nat) : Int))], isByte c := by
    intro c hc
    simp only [List.mem_cons, List.mem_nil_iff, or_false] at hc
    rcases hc with rfl | rfl | rfl | rfl | rfl | rfl | rfl | rfl | rfl | rfl | rfl
    · exact isB u _
    · exact isB u _
    · exact isB u _
    · exact isB u _
    · exact isB u _
    · exact isB u _
    · exact isB u _
    · exact isB u _
    · exact isB u _
    · exact isB u _
    · exact isB u _
  refine W.need ⟨rfl, hb⟩ ?_
  refine W.ret (RetQ.pure rfl (ret_sD ?_))
  unfold itS Lib.itoa
  rw [if_neg (by omega), Int.toNat_natCast, digs_dec _ u hd]
  rfl
theorem fmtP12 (u : Nat) (h1 : 100 ≤ u) (hu : u < 1000000000000) (hl : 100000000000 ≤ u) : Go.Am.Pure Tryz.prog 94 [.d (nI (u : Int)), .d (nI 10)] (.d (sD (itS (u : Int)))) := by
  refine CallOk.of tysOk mixed od94 Tryz.func94 rfl rfl code94 ?_
  have hd : Lib.nDigits u = 12 := Lib.nDigits_unique 11 u (by simpa using hl) (by simpa using hu)
  have g0 : decide ((0 : Int) ≤ u) = true := decide_eq_true (by omega)
  have g1 : decide ((u : Int) < 100) = false := decide_eq_false (by omega)
  have g2 : decide ((u : Int) < 0) = false := decide_eq_false (by omega)
  repeat (first | refine W.ite_t rfl ?_ | refine W.ite_f rfl ?_ | refine W.ite_t g0 ?_ | refine W.ite_f g1 ?_ | refine W.ite_f g2 ?_)
  rw [w64u u (by omega)]
  have kd := ok104' u 12 (by omega) (by decide) (by simpa using hl) (by simpa using hu)
  have kb := ok105_12 u hu
  refine W.pure kd rfl rfl ?_
  refine W.need (by decide) (W.need (by decide) ?_)
  refine W.callT [0] kb (by decide) rfl rfl rfl rfl ?_
  rintro v σ ⟨rfl, rfl⟩
  repeat (first | refine W.ite_t rfl ?_ | refine W.ite_f rfl ?_ | refine W.ite_t g0 ?_ | refine W.ite_f g1 ?_ | refine W.ite_f g2 ?_)
  refine W.need (by decide) (W.need (by decide) ?_)
  have hb : ∀ c ∈ [D.lit (.int .u8 ((48 + u / 100000000000 % 10 : Nat) : Int)), D.lit (.int .u8 ((48 + u / 10000000000 % 10 : Nat) : Int)), D.lit (.int .u8 ((48 + u / 1000000000 % 10 : Nat) : Int)), D.lit (.int .u8 ((48 + u / 100000000 % 10 : Nat) : Int)), D.lit (.int .u8 ((48 + u / 10000000 % 10 : Nat) : Int)), D.lit (.int .u8 ((48 + u / 1000000 % 10 : Nat) : Int)), D.lit (.int .u8 ((48 + u / 100000 % 10 : Nat) : Int)), D.lit (.int .u8 ((48 + u / 10000 % 10 : Nat) : Int)), D.lit (.int .u8 ((48 + u / 1000 % 10 : Nat) : Int)), D.lit (.int .u8 ((48 + u / 100 % 10 : Nat) : Int)), D.lit (.int .u8 ((48 + u / 10 % 10 : Nat) : Int)), D.lit (.int .u8 ((48 + u / 1 % 10 : Nat) : Int))], isByte c := by
    intro c hc
    simp only [List.mem_cons, List.mem_nil_iff, or_false] at hc
    rcases hc with rfl | rfl | rfl | rfl | rfl | rfl | rfl | rfl | rfl | rfl | rfl | rfl
    · exact isB u _
    · exact isB u _
    · exact isB u _
    · exact isB u _
    · exact isB u _
    · exact isB u _
    · exact isB u _
    · exact isB u _
    · exact isB u _
    · exact isB u _
    · exact isB u _
    · exact isB u _
  refine W.need ⟨rfl, hb⟩ ?_
  refine W.ret (RetQ.pure rfl (ret_sD ?_))
  unfold itS Lib.itoa
  rw [if_neg (by omega), Int.toNat_natCast, digs_dec _ u hd]
  rfl
theorem fmtP13 (u : Nat) (h1 : 100 ≤ u) (hu : u < 10000000000000) (hl : 1000000000000 ≤ u) : Go.Am.Pure Tryz.prog 94 [.d (nI (u : Int)), .d (nI 10)] (.d (sD (itS (u : Int)))) := by
  refine CallOk.of tysOk mixed od94 Tryz.func94 rfl rfl code94 ?_
  have hd : Lib.nDigits u = 13 := Lib.nDigits_unique 12 u (by simpa using hl) (by simpa using hu)
  have g0 : decide ((0 : Int) ≤ u) = true := decide_eq_true (by omega)
  have g1 : decide ((u : Int) < 100) = false := decide_eq_false (by omega)
  have g2 : decide ((u : Int) < 0) = false := decide_eq_false (by omega)
  repeat (first | refine W.ite_t rfl ?_ | refine W.ite_f rfl ?_ | refine W.ite_t g0 ?_ | refine W.ite_f g1 ?_ | refine W.ite_f g2 ?_)
  rw [w64u u (by omega)]
  have kd := ok104' u 13 (by omega) (by decide) (by simpa using hl) (by simpa using hu)
  have kb := ok105_13 u hu
  refine W.pure kd rfl rfl ?_
  refine W.need (by decide) (W.need (by decide) ?_)
  refine W.callT [0] kb (by decide) rfl rfl rfl rfl ?_
  rintro v σ ⟨rfl, rfl⟩
  repeat (first | refine W.ite_t rfl ?_ | refine W.ite_f rfl ?_ | refine W.ite_t g0 ?_ | refine W.ite_f g1 ?_ | refine W.ite_f g2 ?_)
  refine W.need (by decide) (W.need (by decide) ?_)
  have hb : ∀ c ∈ [D.lit (.int .u8 ((48 + u / 1000000000000 % 10 : Nat) : Int)), D.lit (.int .u8 ((48 + u / 100000000000 % 10 : Nat) : Int)), D.lit (.int .u8 ((48 + u / 10000000000 % 10 : Nat) : Int)), D.lit (.int .u8 ((48 + u / 1000000000 % 10 : Nat) : Int)), D.lit (.int .u8 ((48 + u / 100000000 % 10 : Nat) : Int)), D.lit (.int .u8 ((48 + u / 10000000 % 10 : Nat) : Int)), D.lit (.int .u8 ((48 + u / 1000000 % 10 : Nat) : Int)), D.lit (.int .u8 ((48 + u / 100000 % 10 : Nat) : Int)), D.lit (.int .u8 ((48 + u / 10000 % 10 : Nat) : Int)), D.lit (.int .u8 ((48 + u / 1000 % 10 : Nat) : Int)), D.lit (.int .u8 ((48 + u / 100 % 10 : Nat) : Int)), D.lit (.int .u8 ((48 + u / 10 % 10 : Nat) : Int)), D.lit (.int .u8 ((48 + u / 1 % 10 : Nat) : Int))], isByte c := by
    intro c hc
    simp only [List.mem_cons, List.mem_nil_iff, or_false] at hc
    rcases hc with rfl | rfl | rfl | rfl | rfl | rfl | rfl | rfl | rfl | rfl | rfl | rfl | rfl
    · exact isB u _
    · exact isB u _
    · exact isB u _
    · exact isB u _
    · exact isB u _
    · exact isB u _
    · exact isB u _
    · exact isB u _
    · exact isB u _
    · exact isB u _
    · exact isB u _
    · exact isB u _
    · exact isB u _
  refine W.need ⟨rfl, hb⟩ ?_
  refine W.ret (RetQ.pure rfl (ret_sD ?_))
  unfold itS Lib.itoa
  rw [if_neg (by omega), Int.toNat_natCast, digs_dec _ u hd]
  rfl
theorem fmtP14 (u : Nat) (h1 : 100 ≤ u) (hu : u < 100000000000000) (hl : 10000000000000 ≤ u) : Go.Am.Pure Tryz.prog 94 [.d (nI (u : Int)), .d (nI 10)] (.d (sD (itS (u : Int)))) := by
  refine CallOk.of tysOk mixed od94 Tryz.func94 rfl rfl code94 ?_
  have hd : Lib.nDigits u = 14 := Lib.nDigits_unique 13 u (by simpa using hl) (by simpa using hu)
  have g0 : decide ((0 : Int) ≤ u) = true := decide_eq_true (by omega)
  have g1 : decide ((u : Int) < 100) = false := decide_eq_false (by omega)
  have g2 : decide ((u : Int) < 0) = false := decide_eq_false (by omega)
  repeat (first | refine W.ite_t rfl ?_ | refine W.ite_f rfl ?_ | refine W.ite_t g0 ?_ | refine W.ite_f g1 ?_ | refine W.ite_f g2 ?_)
  rw [w64u u (by omega)]
  have kd := ok104' u 14 (by omega) (by decide) (by simpa using hl) (by simpa using hu)
  have kb := ok105_14 u hu
  refine W.pure kd rfl rfl ?_
  refine W.need (by decide) (W.need (by decide) ?_)
  refine W.callT [0] kb (by decide) rfl rfl rfl rfl ?_
  rintro v σ ⟨rfl, rfl⟩
  repeat (first | refine W.ite_t rfl ?_ | refine W.ite_f rfl ?_ | refine W.ite_t g0 ?_ | refine W.ite_f g1 ?_ | refine W.ite_f g2 ?_)
  refine W.need (by decide) (W.need (by decide) ?_)
  have hb : ∀ c ∈ [D.lit (.int .u8 ((48 + u / 10000000000000 % 10 : Nat) : Int)), D.lit (.int .u8 ((48 + u / 1000000000000 % 10 : Nat) : Int)), D.lit (.int .u8 ((48 + u / 100000000000 % 10 : Nat) : Int)), D.lit (.int .u8 ((48 + u / 10000000000 % 10 : Nat) : Int)), D.lit (.int .u8 ((48 + u / 1000000000 % 10 : Nat) : Int)), D.lit (.int .u8 ((48 + u / 100000000 % 10 : Nat) : Int)), D.lit (.int .u8 ((48 + u / 10000000 % 10 : Nat) : Int)), D.lit (.int .u8 ((48 + u / 1000000 % 10 : Nat) : Int)), D.lit (.int .u8 ((48 + u / 100000 % 10 : Nat) : Int)), D.lit (.int .u8 ((48 + u / 10000 % 10 : Nat) : Int)), D.lit (.int .u8 ((48 + u / 1000 % 10 : Nat) : Int)), D.lit (.int .u8 ((48 + u / 100 % 10 : Nat) : Int)), D.lit (.int .u8 ((48 + u / 10 % 10 : Nat) : Int)), D.lit (.int .u8 ((48 + u / 1 % 10 : Nat) : Int))], isByte c := by
    intro c hc
    simp only [List.mem_cons, List.mem_nil_iff, or_false] at hc
    rcases hc with rfl | rfl | rfl | rfl | rfl | rfl | rfl | rfl | rfl | rfl | rfl | rfl | rfl | rfl
    · exact isB u _
    · exact isB u _
    · exact isB u _
    · exact isB u _
    · exact isB u _
    · exact isB u _
    · exact isB u _
    · exact isB u _
    · exact isB u _
    · exact isB u _
    · exact isB u _
    · exact isB u _
    · exact isB u _
    · exact isB u _
  refine W.need ⟨rfl, hb⟩ ?_
  refine W.ret (RetQ.pure rfl (ret_sD ?_))
  unfold itS Lib.itoa
  rw [if_neg (by omega), Int.toNat_natCast, digs_dec _ u hd]
  rfl
theorem fmtP15 (u : Nat) (h1 : 100 ≤ u) (hu : u < 1000000000000000) (hl : 100000000000000 ≤ u) : Go.Am.Pure Tryz.prog 94 [.d (nI (u : Int)), .d (nI 10)] (.d (sD (itS (u : Int)))) := by
  refine CallOk.of tysOk mixed od94 Tryz.func94 rfl rfl code94 ?_
  have hd : Lib.nDigits u = 15 := Lib.nDigits_unique 14 u (by simpa using hl) (by simpa using hu)
  have g0 : decide ((0 : Int) ≤ u) = true := decide_eq_true (by omega)
  have g1 : decide ((u : Int) < 100) = false := decide_eq_false (by omega)
  have g2 : decide ((u : Int) < 0) = false := decide_eq_false (by omega)
  repeat (first | refine W.ite_t rfl ?_ | refine W.ite_f rfl ?_ | refine W.ite_t g0 ?_ | refine W.ite_f g1 ?_ | refine W.ite_f g2 ?_)
  rw [w64u u (by omega)]
  have kd := ok104' u 15 (by omega) (by decide) (by simpa using hl) (by simpa using hu)
  have kb := ok105_15 u hu
  refine W.pure kd rfl rfl ?_
  refine W.need (by decide) (W.need (by decide) ?_)
  refine W.callT [0] kb (by decide) rfl rfl rfl rfl ?_
  rintro v σ ⟨rfl, rfl⟩
  repeat (first | refine W.ite_t rfl ?_ | refine W.ite_f rfl ?_ | refine W.ite_t g0 ?_ | refine W.ite_f g1 ?_ | refine W.ite_f g2 ?_)
  refine W.need (by decide) (W.need (by decide) ?_)
  have hb : ∀ c ∈ [D.lit (.int .u8 ((48 + u / 100000000000000 % 10 : Nat) : Int)), D.lit (.int .u8 ((48 + u / 10000000000000 % 10 : Nat) : Int)), D.lit (.int .u8 ((48 + u / 1000000000000 % 10 : Nat) : Int)), D.lit (.int .u8 ((48 + u / 100000000000 % 10 : Nat) : Int)), D.lit (.int .u8 ((48 + u / 10000000000 % 10 : Nat) : Int)), D.lit (.int .u8 ((48 + u / 1000000000 % 10 : Nat) : Int)), D.lit (.int .u8 ((48 + u / 100000000 % 10 : Nat) : Int)), D.lit (.int .u8 ((48 + u / 10000000 % 10 : Nat) : Int)), D.lit (.int .u8 ((48 + u / 1000000 % 10 : Nat) : Int)), D.lit (.int .u8 ((48 + u / 100000 % 10 : Nat) : Int)), D.lit (.int .u8 ((48 + u / 10000 % 10 : Nat) : Int)), D.lit (.int .u8 ((48 + u / 1000 % 10 : Nat) : Int)), D.lit (.int .u8 ((48 + u / 100 % 10 : Nat) : Int)), D.lit (.int .u8 ((48 + u / 10 % 10 : Nat) : Int)), D.lit (.int .u8 ((48 + u / 1 % 10 : Nat) : Int))], isByte c := by
    intro c hc
    simp only [List.mem_cons, List.mem_nil_iff, or_false] at hc
    rcases hc with rfl | rfl | rfl | rfl | rfl | rfl | rfl | rfl | rfl | rfl | rfl | rfl | rfl | rfl | rfl
    · exact isB u _
    · exact isB u _
    · exact isB u _
    · exact isB u _
    · exact isB u _
    · exact isB u _
    · exact isB u _
    · exact isB u _
    · exact isB u _
    · exact isB u _
    · exact isB u _
    · exact isB u _
    · exact isB u _
    · exact isB u _
    · exact isB u _
  refine W.need ⟨rfl, hb⟩ ?_
  refine W.ret (RetQ.pure rfl (ret_sD ?_))
  unfold itS Lib.itoa
  rw [if_neg (by omega), Int.toNat_natCast, digs_dec _ u hd]
  rfl
theorem fmtP16 (u : Nat) (h1 : 100 ≤ u) (hu : u < 10000000000000000) (hl : 1000000000000000 ≤ u) : Go.Am.Pure Tryz.prog 94 [.d (nI (u : Int)), .d (nI 10)] (.d (sD (itS (u : Int)))) := by
  refine CallOk.of tysOk mixed od94 Tryz.func94 rfl rfl code94 ?_
  have hd : Lib.nDigits u = 16 := Lib.nDigits_unique 15 u (by simpa using hl) (by simpa using hu)
  have g0 : decide ((0 : Int) ≤ u) = true := decide_eq_true (by omega)
  have g1 : decide ((u : Int) < 100) = false := decide_eq_false (by omega)
  have g2 : decide ((u : Int) < 0) = false := decide_eq_false (by omega)
  repeat (first | refine W.ite_t rfl ?_ | refine W.ite_f rfl ?_ | refine W.ite_t g0 ?_ | refine W.ite_f g1 ?_ | refine W.ite_f g2 ?_)
  rw [w64u u (by omega)]
  have kd := ok104' u 16 (by omega) (by decide) (by simpa using hl) (by simpa using hu)
  have kb := ok105_16 u hu
  refine W.pure kd rfl rfl ?_
  refine W.need (by decide) (W.need (by decide) ?_)
  refine W.callT [0] kb (by decide) rfl rfl rfl rfl ?_
  rintro v σ ⟨rfl, rfl⟩
  repeat (first | refine W.ite_t rfl ?_ | refine W.ite_f rfl ?_ | refine W.ite_t g0 ?_ | refine W.ite_f g1 ?_ | refine W.ite_f g2 ?_)
  refine W.need (by decide) (W.need (by decide) ?_)
  have hb : ∀ c ∈ [D.lit (.int .u8 ((48 + u / 1000000000000000 % 10 : Nat) : Int)), D.lit (.int .u8 ((48 + u / 100000000000000 % 10 : Nat) : Int)), D.lit (.int .u8 ((48 + u / 10000000000000 % 10 : Nat) : Int)), D.lit (.int .u8 ((48 + u / 1000000000000 % 10 : Nat) : Int)), D.lit (.int .u8 ((48 + u / 100000000000 % 10 : Nat) : Int)), D.lit (.int .u8 ((48 + u / 10000000000 % 10 : Nat) : Int)), D.lit (.int .u8 ((48 + u / 1000000000 % 10 : Nat) : Int)), D.lit (.int .u8 ((48 + u / 100000000 % 10 : Nat) : Int)), D.lit (.int .u8 ((48 + u / 10000000 % 10 : Nat) : Int)), D.lit (.int .u8 ((48 + u / 1000000 % 10 : Nat) : Int)), D.lit (.int .u8 ((48 + u / 100000 % 10 : Nat) : Int)), D.lit (.int .u8 ((48 + u / 10000 % 10 : Nat) : Int)), D.lit (.int .u8 ((48 + u / 1000 % 10 : Nat) : Int)), D.lit (.int .u8 ((48 + u / 100 % 10 : Nat) : Int)), D.lit (.int .u8 ((48 + u / 10 % 10 : Nat) : Int)), D.lit (.int .u8 ((48 + u / 1 % 10 : Nat) : Int))], isByte c := by
    intro c hc
    simp only [List.mem_cons, List.mem_nil_iff, or_false] at hc
    rcases hc with rfl | rfl | rfl | rfl | rfl | rfl | rfl | rfl | rfl | rfl | rfl | rfl | rfl | rfl | rfl | rfl
    · exact isB u _
    · exact isB u _
    · exact isB u _
    · exact isB u _
    · exact isB u _
    · exact isB u _
    · exact isB u _
    · exact isB u _
    · exact isB u _
    · exact isB u _
    · exact isB u _
    · exact isB u _
    · exact isB u _
    · exact isB u _
    · exact isB u _
    · exact isB u _
  refine W.need ⟨rfl, hb⟩ ?_
  refine W.ret (RetQ.pure rfl (ret_sD ?_))
  unfold itS Lib.itoa
  rw [if_neg (by omega), Int.toNat_natCast, digs_dec _ u hd]
  rfl
theorem fmtP17 (u : Nat) (h1 : 100 ≤ u) (hu : u < 100000000000000000) (hl : 10000000000000000 ≤ u) : Go.Am.Pure Tryz.prog 94 [.d (nI (u : Int)), .d (nI 10)] (.d (sD (itS (u : Int)))) := by
  refine CallOk.of tysOk mixed od94 Tryz.func94 rfl rfl code94 ?_
  have hd : Lib.nDigits u = 17 := Lib.nDigits_unique 16 u (by simpa using hl) (by simpa using hu)
  have g0 : decide ((0 : Int) ≤ u) = true := decide_eq_true (by omega)
  have g1 : decide ((u : Int) < 100) = false := decide_eq_false (by omega)
  have g2 : decide ((u : Int) < 0) = false := decide_eq_false (by omega)
  repeat (first | refine W.ite_t rfl ?_ | refine W.ite_f rfl ?_ | refine W.ite_t g0 ?_ | refine W.ite_f g1 ?_ | refine W.ite_f g2 ?_)
  rw [w64u u (by omega)]
  have kd := ok104' u 17 (by omega) (by decide) (by simpa using hl) (by simpa using hu)
  have kb := ok105_17 u hu
  refine W.pure kd rfl rfl ?_
  refine W.need (by decide) (W.need (by decide) ?_)
  refine W.callT [0] kb (by decide) rfl rfl rfl rfl ?_
  rintro v σ ⟨rfl, rfl⟩
  repeat (first | refine W.ite_t rfl ?_ | refine W.ite_f rfl ?_ | refine W.ite_t g0 ?_ | refine W.ite_f g1 ?_ | refine W.ite_f g2 ?_)
  refine W.need (by decide) (W.need (by decide) ?_)
  have hb : ∀ c ∈ [D.lit (.int .u8 ((48 + u / 10000000000000000 % 10 : Nat) : Int)), D.lit (.int .u8 ((48 + u / 1000000000000000 % 10 : Nat) : Int)), D.lit (.int .u8 ((48 + u / 100000000000000 % 10 : Nat) : Int)), D.lit (.int .u8 ((48 + u / 10000000000000 % 10 : Nat) : Int)), D.lit (.int .u8 ((48 + u / 1000000000000 % 10 : Nat) : Int)), D.lit (.int .u8 ((48 + u / 100000000000 % 10 : Nat) : Int)), D.lit (.int .u8 ((48 + u / 10000000000 % 10 : Nat) : Int)), D.lit (.int .u8 ((48 + u / 1000000000 % 10 : Nat) : Int)), D.lit (.int .u8 ((48 + u / 100000000 % 10 : Nat) : Int)), D.lit (.int .u8 ((48 + u / 10000000 % 10 : Nat) : Int)), D.lit (.int .u8 ((48 + u / 1000000 % 10 : Nat) : Int)), D.lit (.int .u8 ((48 + u / 100000 % 10 : Nat) : Int)), D.lit (.int .u8 ((48 + u / 10000 % 10 : Nat) : Int)), D.lit (.int .u8 ((48 + u / 1000 % 10 : Nat) : Int)), D.lit (.int .u8 ((48 + u / 100 % 10 : Nat) : Int)), D.lit (.int .u8 ((48 + u / 10 % 10 : Nat) : Int)), D.lit (.int .u8 ((48 + u / 1 % 10 : Nat) : Int))], isByte c := by
    intro c hc
    simp only [List.mem_cons, List.mem_nil_iff, or_false] at hc
    rcases hc with rfl | rfl | rfl | rfl | rfl | rfl | rfl | rfl | rfl | rfl | rfl | rfl | rfl | rfl | rfl | rfl | rfl
    · exact isB u _
    · exact isB u _
    · exact isB u _
    · exact isB u _
    · exact isB u _
    · exact isB u _
    · exact isB u _
    · exact isB u _
    · exact isB u _
    · exact isB u _
    · exact isB u _
    · exact isB u _
    · exact isB u _
    · exact isB u _
    · exact isB u _
    · exact isB u _
    · exact isB u _
  refine W.need ⟨rfl, hb⟩ ?_
  refine W.ret (RetQ.pure rfl (ret_sD ?_))
  unfold itS Lib.itoa
  rw [if_neg (by omega), Int.toNat_natCast, digs_dec _ u hd]
  rfl
theorem fmtP18 (u : Nat) (h1 : 100 ≤ u) (hu : u < 1000000000000000000) (hl : 100000000000000000 ≤ u) : Go.Am.Pure Tryz.prog 94 [.d (nI (u : Int)), .d (nI 10)] (.d (sD (itS (u : Int)))) := by
  refine CallOk.of tysOk mixed od94 Tryz.func94 rfl rfl code94 ?_
  have hd : Lib.nDigits u = 18 := Lib.nDigits_unique 17 u (by simpa using hl) (by simpa using hu)
  have g0 : decide ((0 : Int) ≤ u) = true := decide_eq_true (by omega)
  have g1 : decide ((u : Int) < 100) = false := decide_eq_false (by omega)
  have g2 : decide ((u : Int) < 0) = false := decide_eq_false (by omega)
  repeat (first | refine W.ite_t rfl ?_ | refine W.ite_f rfl ?_ | refine W.ite_t g0 ?_ | refine W.ite_f g1 ?_ | refine W.ite_f g2 ?_)
  rw [w64u u (by omega)]
  have kd := ok104' u 18 (by omega) (by decide) (by simpa using hl) (by simpa using hu)
  have kb := ok105_18 u hu
  refine W.pure kd rfl rfl ?_
  refine W.need (by decide) (W.need (by decide) ?_)
  refine W.callT [0] kb (by decide) rfl rfl rfl rfl ?_
  rintro v σ ⟨rfl, rfl⟩
  repeat (first | refine W.ite_t rfl ?_ | refine W.ite_f rfl ?_ | refine W.ite_t g0 ?_ | refine W.ite_f g1 ?_ | refine W.ite_f g2 ?_)
  refine W.need (by decide) (W.need (by decide) ?_)
  have hb : ∀ c ∈ [D.lit (.int .u8 ((48 + u / 100000000000000000 % 10 : Nat) : Int)), D.lit (.int .u8 ((48 + u / 10000000000000000 % 10 : Nat) : Int)), D.lit (.int .u8 ((48 + u / 1000000000000000 % 10 : Nat) : Int)), D.lit (.int .u8 ((48 + u / 100000000000000 % 10 : Nat) : Int)), D.lit (.int .u8 ((48 + u / 10000000000000 % 10 : Nat) : Int)), D.lit (.int .u8 ((48 + u / 1000000000000 % 10 : Nat) : Int)), D.lit (.int .u8 ((48 + u / 100000000000 % 10 : Nat) : Int)), D.lit (.int .u8 ((48 + u / 10000000000 % 10 : Nat) : Int)), D.lit (.int .u8 ((48 + u / 1000000000 % 10 : Nat) : Int)), D.lit (.int .u8 ((48 + u / 100000000 % 10 : Nat) : Int)), D.lit (.int .u8 ((48 + u / 10000000 % 10 : Nat) : Int)), D.lit (.int .u8 ((48 + u / 1000000 % 10 : Nat) : Int)), D.lit (.int .u8 ((48 + u / 100000 % 10 : Nat) : Int)), D.lit (.int .u8 ((48 + u / 10000 % 10 : Nat) : Int)), D.lit (.int .u8 ((48 + u / 1000 % 10 : Nat) : Int)), D.lit (.int .u8 ((48 + u / 100 % 10 : Nat) : Int)), D.lit (.int .u8 ((48 + u / 10 % 10 : Nat) : Int)), D.lit (.int .u8 ((48 + u / 1 % 10 : Nat) : Int))], isByte c := by
    intro c hc
    simp only [List.mem_cons, List.mem_nil_iff, or_false] at hc
    rcases hc with rfl | rfl | rfl | rfl | rfl | rfl | rfl | rfl | rfl | rfl | rfl | rfl | rfl | rfl | rfl | rfl | rfl | rfl
    · exact isB u _
    · exact isB u _
    · exact isB u _
    · exact isB u _
    · exact isB u _
    · exact isB u _
    · exact isB u _
    · exact isB u _
    · exact isB u _
    · exact isB u _
    · exact isB u _
    · exact isB u _
    · exact isB u _
    · exact isB u _
    · exact isB u _
    · exact isB u _
    · exact isB u _
    · exact isB u _
  refine W.need ⟨rfl, hb⟩ ?_
  refine W.ret (RetQ.pure rfl (ret_sD ?_))
  unfold itS Lib.itoa
  rw [if_neg (by omega), Int.toNat_natCast, digs_dec _ u hd]
  rfl
theorem fmtP19 (u : Nat) (h1 : 100 ≤ u) (hu : u < 10000000000000000000) (hl : 1000000000000000000 ≤ u) (h9 : u ≤ 9223372036854775808) : Go.Am.Pure Tryz.prog 94 [.d (nI (u : Int)), .d (nI 10)] (.d (sD (itS (u : Int)))) := by
  refine CallOk.of tysOk mixed od94 Tryz.func94 rfl rfl code94 ?_
  have hd : Lib.nDigits u = 19 := Lib.nDigits_unique 18 u (by simpa using hl) (by simpa using hu)
  have g0 : decide ((0 : Int) ≤ u) = true := decide_eq_true (by omega)
  have g1 : decide ((u : Int) < 100) = false := decide_eq_false (by omega)
  have g2 : decide ((u : Int) < 0) = false := decide_eq_false (by omega)
  repeat (first | refine W.ite_t rfl ?_ | refine W.ite_f rfl ?_ | refine W.ite_t g0 ?_ | refine W.ite_f g1 ?_ | refine W.ite_f g2 ?_)
  rw [w64u u (by omega)]
  have kd := ok104' u 19 (by omega) (by decide) (by simpa using hl) (by simpa using hu)
  have kb := ok105_19 u hu
  refine W.pure kd rfl rfl ?_
  refine W.need (by decide) (W.need (by decide) ?_)
  refine W.callT [0] kb (by decide) rfl rfl rfl rfl ?_
  rintro v σ ⟨rfl, rfl⟩
  repeat (first | refine W.ite_t rfl ?_ | refine W.ite_f rfl ?_ | refine W.ite_t g0 ?_ | refine W.ite_f g1 ?_ | refine W.ite_f g2 ?_)
  refine W.need (by decide) (W.need (by decide) ?_)
  have hb : ∀ c ∈ [D.lit (.int .u8 ((48 + u / 1000000000000000000 % 10 : Nat) : Int)), D.lit (.int .u8 ((48 + u / 100000000000000000 % 10 : Nat) : Int)), D.lit (.int .u8 ((48 + u / 10000000000000000 % 10 : Nat) : Int)), D.lit (.int .u8 ((48 + u / 1000000000000000 % 10 : Nat) : Int)), D.lit (.int .u8 ((48 + u / 100000000000000 % 10 : Nat) : Int)), D.lit (.int .u8 ((48 + u / 10000000000000 % 10 : Nat) : Int)), D.lit (.int .u8 ((48 + u / 1000000000000 % 10 : Nat) : Int)), D.lit (.int .u8 ((48 + u / 100000000000 % 10 : Nat) : Int)), D.lit (.int .u8 ((48 + u / 10000000000 % 10 : Nat) : Int)), D.lit (.int .u8 ((48 + u / 1000000000 % 10 : Nat) : Int)), D.lit (.int .u8 ((48 + u / 100000000 % 10 : Nat) : Int)), D.lit (.int .u8 ((48 + u / 10000000 % 10 : Nat) : Int)), D.lit (.int .u8 ((48 + u / 1000000 % 10 : Nat) : Int)), D.lit (.int .u8 ((48 + u / 100000 % 10 : Nat) : Int)), D.lit (.int .u8 ((48 + u / 10000 % 10 : Nat) : Int)), D.lit (.int .u8 ((48 + u / 1000 % 10 : Nat) : Int)), D.lit (.int .u8 ((48 + u / 100 % 10 : Nat) : Int)), D.lit (.int .u8 ((48 + u / 10 % 10 : Nat) : Int)), D.lit (.int .u8 ((48 + u / 1 % 10 : Nat) : Int))], isByte c := by
    intro c hc
    simp only [List.mem_cons, List.mem_nil_iff, or_false] at hc
    rcases hc with rfl | rfl | rfl | rfl | rfl | rfl | rfl | rfl | rfl | rfl | rfl | rfl | rfl | rfl | rfl | rfl | rfl | rfl | rfl
    · exact isB u _
    · exact isB u _
    · exact isB u _
    · exact isB u _
    · exact isB u _
    · exact isB u _
    · exact isB u _
    · exact isB u _
    · exact isB u _
    · exact isB u _
    · exact isB u _
    · exact isB u _
    · exact isB u _
    · exact isB u _
    · exact isB u _
    · exact isB u _
    · exact isB u _
    · exact isB u _
    · exact isB u _
  refine W.need ⟨rfl, hb⟩ ?_
  refine W.ret (RetQ.pure rfl (ret_sD ?_))
  unfold itS Lib.itoa
  rw [if_neg (by omega), Int.toNat_natCast, digs_dec _ u hd]
  rfl
theorem fmtN1 (u : Nat) (h1 : 1 ≤ u) (hu : u < 10) (hl : 1 ≤ u) : Go.Am.Pure Tryz.prog 94 [.d (nI (-(u : Int))), .d (nI 10)] (.d (sD (itS (-(u : Int))))) := by
  refine CallOk.of tysOk mixed od94 Tryz.func94 rfl rfl code94 ?_
  have hd : Lib.nDigits u = 1 := Lib.nDigits_unique 0 u (by simpa using hl) (by simpa using hu)
  have g0 : decide ((0 : Int) ≤ -(u : Int)) = false := decide_eq_false (by omega)
  have g2 : decide (-(u : Int) < 0) = true := decide_eq_true (by omega)
  repeat (first | refine W.ite_t rfl ?_ | refine W.ite_f rfl ?_ | refine W.ite_f g0 ?_ | refine W.ite_t g2 ?_)
  have kd := ok104' u 1 (by omega) (by decide) (by simpa using hl) (by simpa using hu)
  have kb := ok105_1 u hu
  rw [← negw u (by omega)] at kd kb
  refine W.pure kd rfl rfl ?_
  refine W.need (by decide) (W.need (by decide) ?_)
  refine W.callT [0] kb (by decide) rfl rfl rfl rfl ?_
  rintro v σ ⟨rfl, rfl⟩
  repeat (first | refine W.ite_t rfl ?_ | refine W.ite_f rfl ?_ | refine W.ite_f g0 ?_ | refine W.ite_t g2 ?_)
  repeat (first | refine W.need (by decide) ?_ | refine W.ite_t rfl ?_ | refine W.ite_f rfl ?_)
  have hb : ∀ c ∈ [D.lit (.int .u8 45), D.lit (.int .u8 ((48 + u / 1 % 10 : Nat) : Int))], isByte c := by
    intro c hc
    simp only [List.mem_cons, List.mem_nil_iff, or_false] at hc
    rcases hc with rfl | rfl
    · exact isB45
    · exact isB u _
  refine W.need ⟨rfl, hb⟩ ?_
  refine W.ret (RetQ.pure rfl (ret_sD ?_))
  unfold itS Lib.itoa
  rw [if_pos (by omega), Int.natAbs_neg, Int.natAbs_natCast, digs_dec _ u hd]
  rfl
theorem fmtN2 (u : Nat) (h1 : 1 ≤ u) (hu : u < 100) (hl : 10 ≤ u) : Go.Am.Pure Tryz.prog 94 [.d (nI (-(u : Int))), .d (nI 10)] (.d (sD (itS (-(u : Int))))) := by
  refine CallOk.of tysOk mixed od94 Tryz.func94 rfl rfl code94 ?_
  have hd : Lib.nDigits u = 2 := Lib.nDigits_unique 1 u (by simpa using hl) (by simpa using hu)
  have g0 : decide ((0 : Int) ≤ -(u : Int)) = false := decide_eq_false (by omega)
  have g2 : decide (-(u : Int) < 0) = true := decide_eq_true (by omega)
  repeat (first | refine W.ite_t rfl ?_ | refine W.ite_f rfl ?_ | refine W.ite_f g0 ?_ | refine W.ite_t g2 ?_)
  have kd := ok104' u 2 (by omega) (by decide) (by simpa using hl) (by simpa using hu)
  have kb := ok105_2 u hu
  rw [← negw u (by omega)] at kd kb
  refine W.pure kd rfl rfl ?_
  refine W.need (by decide) (W.need (by decide) ?_)
  refine W.callT [0] kb (by decide) rfl rfl rfl rfl ?_
  rintro v σ ⟨rfl, rfl⟩
  repeat (first | refine W.ite_t rfl ?_ | refine W.ite_f rfl ?_ | refine W.ite_f g0 ?_ | refine W.ite_t g2 ?_)
  repeat (first | refine W.need (by decide) ?_ | refine W.ite_t rfl ?_ | refine W.ite_f rfl ?_)
  have hb : ∀ c ∈ [D.lit (.int .u8 45), D.lit (.int .u8 ((48 + u / 10 % 10 : Nat) : Int)), D.lit (.int .u8 ((48 + u / 1 % 10 : Nat) : Int))], isByte c := by
    intro c hc
    simp only [List.mem_cons, List.mem_nil_iff, or_false] at hc
    rcases hc with rfl | rfl | rfl
    · exact isB45
    · exact isB u _
    · exact isB u _
  refine W.need ⟨rfl, hb⟩ ?_
  refine W.ret (RetQ.pure rfl (ret_sD ?_))
  unfold itS Lib.itoa
  rw [if_pos (by omega), Int.natAbs_neg, Int.natAbs_natCast, digs_dec _ u hd]
  rfl
theorem fmtN3 (u : Nat) (h1 : 1 ≤ u) (hu : u < 1000) (hl : 100 ≤ u) : Go.Am.Pure Tryz.prog 94 [.d (nI (-(u : Int))), .d (nI 10)] (.d (sD (itS (-(u : Int))))) := by
  refine CallOk.of tysOk mixed od94 Tryz.func94 rfl rfl code94 ?_
  have hd : Lib.nDigits u = 3 := Lib.nDigits_unique 2 u (by simpa using hl) (by simpa using hu)
  have g0 : decide ((0 : Int) ≤ -(u : Int)) = false := decide_eq_false (by omega)
  have g2 : decide (-(u : Int) < 0) = true := decide_eq_true (by omega)
  repeat (first | refine W.ite_t rfl ?_ | refine W.ite_f rfl ?_ | refine W.ite_f g0 ?_ | refine W.ite_t g2 ?_)
  have kd := ok104' u 3 (by omega) (by decide) (by simpa using hl) (by simpa using hu)
  have kb := ok105_3 u hu
  rw [← negw u (by omega)] at kd kb
  refine W.pure kd rfl rfl ?_
  refine W.need (by decide) (W.need (by decide) ?_)
  refine W.callT [0] kb (by decide) rfl rfl rfl rfl ?_
  rintro v σ ⟨rfl, rfl⟩
  repeat (first | refine W.ite_t rfl ?_ | refine W.ite_f rfl ?_ | refine W.ite_f g0 ?_ | refine W.ite_t g2 ?_)
  repeat (first | refine W.need (by decide) ?_ | refine W.ite_t rfl ?_ | refine W.ite_f rfl ?_)
  have hb : ∀ c ∈ [D.lit (.int .u8 45), D.lit (.int .u8 ((48 + u / 100 % 10 : Nat) : Int)), D.lit (.int .u8 ((48 + u / 10 % 10 : Nat) : Int)), D.lit (.int .u8 ((48 + u / 1 % 10 : Nat) : Int))], isByte c := by
    intro c hc
    simp only [List.mem_cons, List.mem_nil_iff, or_false] at hc
    rcases hc with rfl | rfl | rfl | rfl
    · exact isB45
    · exact isB u _
    · exact isB u _
    · exact isB u _
  refine W.need ⟨rfl, hb⟩ ?_
  refine W.ret (RetQ.pure rfl (ret_sD ?_))
  unfold itS Lib.itoa
  rw [if_pos (by omega), Int.natAbs_neg, Int.natAbs_natCast, digs_dec _ u hd]
  rfl
theorem fmtN4 (u : Nat) (h1 : 1 ≤ u) (hu : u < 10000) (hl : 1000 ≤ u) : Go.Am.Pure Tryz.prog 94 [.d (nI (-(u : Int))), .d (nI 10)] (.d (sD (itS (-(u : Int))))) := by
  refine CallOk.of tysOk mixed od94 Tryz.func94 rfl rfl code94 ?_
  have hd : Lib.nDigits u = 4 := Lib.nDigits_unique 3 u (by simpa using hl) (by simpa using hu)
  have g0 : decide ((0 : Int) ≤ -(u : Int)) = false := decide_eq_false (by omega)
  have g2 : decide (-(u : Int) < 0) = true := decide_eq_true (by omega)
  repeat (first | refine W.ite_t rfl ?_ | refine W.ite_f rfl ?_ | refine W.ite_f g0 ?_ | refine W.ite_t g2 ?_)
  have kd := ok104' u 4 (by omega) (by decide) (by simpa using hl) (by simpa using hu)
  have kb := ok105_4 u hu
  rw [← negw u (by omega)] at kd kb
  refine W.pure kd rfl rfl ?_
  refine W.need (by decide) (W.need (by decide) ?_)
  refine W.callT [0] kb (by decide) rfl rfl rfl rfl ?_
  rintro v σ ⟨rfl, rfl⟩
  repeat (first | refine W.ite_t rfl ?_ | refine W.ite_f rfl ?_ | refine W.ite_f g0 ?_ | refine W.ite_t g2 ?_)
  repeat (first | refine W.need (by decide) ?_ | refine W.ite_t rfl ?_ | refine W.ite_f rfl ?_)
  have hb : ∀ c ∈ [D.lit (.int .u8 45), D.lit (.int .u8 ((48 + u / 1000 % 10 : Nat) : Int)), D.lit (.int .u8 ((48 + u / 100 % 10 : Nat) : Int)), D.lit (.int .u8 ((48 + u / 10 % 10 : Nat) : Int)), D.lit (.int .u8 ((48 + u / 1 % 10 : Nat) : Int))], isByte c := by
    intro c hc
    simp only [List.mem_cons, List.mem_nil_iff, or_false] at hc
    rcases hc with rfl | rfl | rfl | rfl | rfl
    · exact isB45
    · exact isB u _
    · exact isB u _
    · exact isB u _
    · exact isB u _
  refine W.need ⟨rfl, hb⟩ ?_
  refine W.ret (RetQ.pure rfl (ret_sD ?_))
  unfold itS Lib.itoa
  rw [if_pos (by omega), Int.natAbs_neg, Int.natAbs_natCast, digs_dec _ u hd]
  rfl
theorem fmtN5 (u : Nat) (h1 : 1 ≤ u) (hu : u < 100000) (hl : 10000 ≤ u) : Go.Am.Pure Tryz.prog 94 [.d (nI (-(u : Int))), .d (nI 10)] (.d (sD (itS (-(u : Int))))) := by
  refine CallOk.of tysOk mixed od94 Tryz.func94 rfl rfl code94 ?_
  have hd : Lib.nDigits u = 5 := Lib.nDigits_unique 4 u (by simpa using hl) (by simpa using hu)
  have g0 : decide ((0 : Int) ≤ -(u : Int)) = false := decide_eq_false (by omega)
  have g2 : decide (-(u : Int) < 0) = true := decide_eq_true (by omega)
  repeat (first | refine W.ite_t rfl ?_ | refine W.ite_f rfl ?_ | refine W.ite_f g0 ?_ | refine W.ite_t g2 ?_)
  have kd := ok104' u 5 (by omega) (by decide) (by simpa using hl) (by simpa using hu)
  have kb := ok105_5 u hu
  rw [← negw u (by omega)] at kd kb
  refine W.pure kd rfl rfl ?_
  refine W.need (by decide) (W.need (by decide) ?_)
  refine W.callT [0] kb (by decide) rfl rfl rfl rfl ?_
  rintro v σ ⟨rfl, rfl⟩
  repeat (first | refine W.ite_t rfl ?_ | refine W.ite_f rfl ?_ | refine W.ite_f g0 ?_ | refine W.ite_t g2 ?_)
  repeat (first | refine W.need (by decide) ?_ | refine W.ite_t rfl ?_ | refine W.ite_f rfl ?_)
  have hb : ∀ c ∈ [D.lit (.int .u8 45), D.lit (.int .u8 ((48 + u / 10000 % 10 : Nat) : Int)), D.lit (.int .u8 ((48 + u / 1000 % 10 : Nat) : Int)), D.lit (.int .u8 ((48 + u / 100 % 10 : Nat) : Int)), D.lit (.int .u8 ((48 + u / 10 % 10 : Nat) : Int)), D.lit (.int .u8 ((48 + u / 1 % 10 : Nat) : Int))], isByte c := by
    intro c hc
    simp only [List.mem_cons, List.mem_nil_iff, or_false] at hc
    rcases hc with rfl | rfl | rfl | rfl | rfl | rfl
    · exact isB45
    · exact isB u _
    · exact isB u _
    · exact isB u _
    · exact isB u _
    · exact isB u _
  refine W.need ⟨rfl, hb⟩ ?_
  refine W.ret (RetQ.pure rfl (ret_sD ?_))
  unfold itS Lib.itoa
  rw [if_pos (by omega), Int.natAbs_neg, Int.natAbs_natCast, digs_dec _ u hd]
  rfl
theorem fmtN6 (u : Nat) (h1 : 1 ≤ u) (hu : u < 1000000) (hl : 100000 ≤ u) : Go.Am.Pure Tryz.prog 94 [.d (nI (-(u : Int))), .d (nI 10)] (.d (sD (itS (-(u : Int))))) := by
  refine CallOk.of tysOk mixed od94 Tryz.func94 rfl rfl code94 ?_
  have hd : Lib.nDigits u = 6 := Lib.nDigits_unique 5 u (by simpa using hl) (by simpa using hu)
  have g0 : decide ((0 : Int) ≤ -(u : Int)) = false := decide_eq_false (by omega)
  have g2 : decide (-(u : Int) < 0) = true := decide_eq_true (by omega)
  repeat (first | refine W.ite_t rfl ?_ | refine W.ite_f rfl ?_ | refine W.ite_f g0 ?_ | refine W.ite_t g2 ?_)
  have kd := ok104' u 6 (by omega) (by decide) (by simpa using hl) (by simpa using hu)
  have kb := ok105_6 u hu
  rw [← negw u (by omega)] at kd kb
  refine W.pure kd rfl rfl ?_
  refine W.need (by decide) (W.need (by decide) ?_)
  refine W.callT [0] kb (by decide) rfl rfl rfl rfl ?_
  rintro v σ ⟨rfl, rfl⟩
  repeat (first | refine W.ite_t rfl ?_ | refine W.ite_f rfl ?_ | refine W.ite_f g0 ?_ | refine W.ite_t g2 ?_)
  repeat (first | refine W.need (by decide) ?_ | refine W.ite_t rfl ?_ | refine W.ite_f rfl ?_)
  have hb : ∀ c ∈ [D.lit (.int .u8 45), D.lit (.int .u8 ((48 + u / 100000 % 10 : Nat) : Int)), D.lit (.int .u8 ((48 + u / 10000 % 10 : Nat) : Int)), D.lit (.int .u8 ((48 + u / 1000 % 10 : Nat) : Int)), D.lit (.int .u8 ((48 + u / 100 % 10 : Nat) : Int)), D.lit (.int .u8 ((48 + u / 10 % 10 : Nat) : Int)), D.lit (.int .u8 ((48 + u / 1 % 10 : Nat) : Int))], isByte c := by
    intro c hc
    simp only [List.mem_cons, List.mem_nil_iff, or_false] at hc
    rcases hc with rfl | rfl | rfl | rfl | rfl | rfl | rfl
    · exact isB45
    · exact isB u _
    · exact isB u _
    · exact isB u _
    · exact isB u _
    · exact isB u _
    · exact isB u _
  refine W.need ⟨rfl, hb⟩ ?_
  refine W.ret (RetQ.pure rfl (ret_sD ?_))
  unfold itS Lib.itoa
  rw [if_pos (by omega), Int.natAbs_neg, Int.natAbs_natCast, digs_dec _ u hd]
  rfl
theorem fmtN7 (u : Nat) (h1 : 1 ≤ u) (hu : u < 10000000) (hl : 1000000 ≤ u) : Go.Am.Pure Tryz.prog 94 [.d (nI (-(u : Int))), .d (nI 10)] (.d (sD (itS (-(u : Int))))) := by
  refine CallOk.of tysOk mixed od94 Tryz.func94 rfl rfl code94 ?_
  have hd : Lib.nDigits u = 7 := Lib.nDigits_unique 6 u (by simpa using hl) (by simpa using hu)
  have g0 : decide ((0 : Int) ≤ -(u : Int)) = false := decide_eq_false (by omega)
  have g2 : decide (-(u : Int) < 0) = true := decide_eq_true (by omega)
  repeat (first | refine W.ite_t rfl ?_ | refine W.ite_f rfl ?_ | refine W.ite_f g0 ?_ | refine W.ite_t g2 ?_)
  have kd := ok104' u 7 (by omega) (by decide) (by simpa using hl) (by simpa using hu)
  have kb := ok105_7 u hu
  rw [← negw u (by omega)] at kd kb
  refine W.pure kd rfl rfl ?_
  refine W.need (by decide) (W.need (by decide) ?_)
  refine W.callT [0] kb (by decide) rfl rfl rfl rfl ?_
  rintro v σ ⟨rfl, rfl⟩
  repeat (first | refine W.ite_t rfl ?_ | refine W.ite_f rfl ?_ | refine W.ite_f g0 ?_ | refine W.ite_t g2 ?_)
  repeat (first | refine W.need (by decide) ?_ | refine W.ite_t rfl ?_ | refine W.ite_f rfl ?_)
  have hb : ∀ c ∈ [D.lit (.int .u8 45), D.lit (.int .u8 ((48 + u / 1000000 % 10 : Nat) : Int)), D.lit (.int .u8 ((48 + u / 100000 % 10 : Nat) : Int)), D.lit (.int .u8 ((48 + u / 10000 % 10 : Nat) : Int)), D.lit (.int .u8 ((48 + u / 1000 % 10 : Nat) : Int)), D.lit (.int .u8 ((48 + u / 100 % 10 : Nat) : Int)), D.lit (.int .u8 ((48 + u / 10 % 10 : Nat) : Int)), D.lit (.int .u8 ((48 + u / 1 % 10 : Nat) : Int))], isByte c := by
    intro c hc
    simp only [List.mem_cons, List.mem_nil_iff, or_false] at hc
    rcases hc with rfl | rfl | rfl | rfl | rfl | rfl | rfl | rfl
    · exact isB45
    · exact isB u _
    · exact isB u _
    · exact isB u _
    · exact isB u _
    · exact isB u _
    · exact isB u _
    · exact isB u _
  refine W.need ⟨rfl, hb⟩ ?_
  refine W.ret (RetQ.pure rfl (ret_sD ?_))
  unfold itS Lib.itoa
  rw [if_pos (by omega), Int.natAbs_neg, Int.natAbs_natCast, digs_dec _ u hd]
  rfl
theorem fmtN8 (u : Nat) (h1 : 1 ≤ u) (hu : u < 100000000) (hl : 10000000 ≤ u) : Go.Am.Pure Tryz.prog 94 [.d (nI (-(u : Int))), .d (nI 10)] (.d (sD (itS (-(u : Int))))) := by
  refine CallOk.of tysOk mixed od94 Tryz.func94 rfl rfl code94 ?_
  have hd : Lib.nDigits u = 8 := Lib.nDigits_unique 7 u (by simpa using hl) (by simpa using hu)
  have g0 : decide ((0 : Int) ≤ -(u : Int)) = false := decide_eq_false (by omega)
  have g2 : decide (-(u : Int) < 0) = true := decide_eq_true (by omega)
  repeat (first | refine W.ite_t rfl ?_ | refine W.ite_f rfl ?_ | refine W.ite_f g0 ?_ | refine W.ite_t g2 ?_)
  have kd := ok104' u 8 (by omega) (by decide) (by simpa using hl) (by simpa using hu)
  have kb := ok105_8 u hu
  rw [← negw u (by omega)] at kd kb
  refine W.pure kd rfl rfl ?_
  refine W.need (by decide) (W.need (by decide) ?_)
  refine W.callT [0] kb (by decide) rfl rfl rfl rfl ?_
  rintro v σ ⟨rfl, rfl⟩
  repeat (first | refine W.ite_t rfl ?_ | refine W.ite_f rfl ?_ | refine W.ite_f g0 ?_ | refine W.ite_t g2 ?_)
  repeat (first | refine W.need (by decide) ?_ | refine W.ite_t rfl ?_ | refine W.ite_f rfl ?_)
  have hb : ∀ c ∈ [D.lit (.int .u8 45), D.lit (.int .u8 ((48 + u / 10000000 % 10 : Nat) : Int)), D.lit (.int .u8 ((48 + u / 1000000 % 10 : Nat) : Int)), D.lit (.int .u8 ((48 + u / 100000 % 10 : Nat) : Int)), D.lit (.int .u8 ((48 + u / 10000 % 10 : Nat) : Int)), D.lit (.int .u8 ((48 + u / 1000 % 10 : Nat) : Int)), D.lit (.int .u8 ((48 + u / 100 % 10 : Nat) : Int)), D.lit (.int .u8 ((48 + u / 10 % 10 : Nat) : Int)), D.lit (.int .u8 ((48 + u / 1 % 10 : Nat) : Int))], isByte c := by
    intro c hc
    simp only [List.mem_cons, List.mem_nil_iff, or_false] at hc
    rcases hc with rfl | rfl | rfl | rfl | rfl | rfl | rfl | rfl | rfl
    · exact isB45
    · exact isB u _
    · exact isB u _
    · exact isB u _
    · exact isB u _
    · exact isB u _
    · exact isB u _
    · exact isB u _
    · exact isB u _
  refine W.need ⟨rfl, hb⟩ ?_
  refine W.ret (RetQ.pure rfl (ret_sD ?_))
  unfold itS Lib.itoa
  rw [if_pos (by omega), Int.natAbs_neg, Int.natAbs_natCast, digs_dec _ u hd]
  rfl
theorem fmtN9 (u : Nat) (h1 : 1 ≤ u) (hu : u < 1000000000) (hl : 100000000 ≤ u) : Go.Am.Pure Tryz.prog 94 [.d (nI (-(u : Int))), .d (nI 10)] (.d (sD (itS (-(u : Int))))) := by
  refine CallOk.of tysOk mixed od94 Tryz.func94 rfl rfl code94 ?_
  have hd : Lib.nDigits u = 9 := Lib.nDigits_unique 8 u (by simpa using hl) (by simpa using hu)
  have g0 : decide ((0 : Int) ≤ -(u : Int)) = false := decide_eq_false (by omega)
  have g2 : decide (-(u : Int) < 0) = true := decide_eq_true (by omega)
  repeat (first | refine W.ite_t rfl ?_ | refine W.ite_f rfl ?_ | refine W.ite_f g0 ?_ | refine W.ite_t g2 ?_)
  have kd := ok104' u 9 (by omega) (by decide) (by simpa using hl) (by simpa using hu)
  have kb := ok105_9 u hu
  rw [← negw u (by omega)] at kd kb
  refine W.pure kd rfl rfl ?_
  refine W.need (by decide) (W.need (by decide) ?_)
  refine W.callT [0] kb (by decide) rfl rfl rfl rfl ?_
  rintro v σ ⟨rfl, rfl⟩
  repeat (first | refine W.ite_t rfl ?_ | refine W.ite_f rfl ?_ | refine W.ite_f g0 ?_ | refine W.ite_t g2 ?_)
  repeat (first | refine W.need (by decide) ?_ | refine W.ite_t rfl ?_ | refine W.ite_f rfl ?_)
  have hb : ∀ c ∈ [D.lit (.int .u8 45), D.lit (.int .u8 ((48 + u / 100000000 % 10 : Nat) : Int)), D.lit (.int .u8 ((48 + u / 10000000 % 10 : Nat) : Int)), D.lit (.int .u8 ((48 + u / 1000000 % 10 : Nat) : Int)), D.lit (.int .u8 ((48 + u / 100000 % 10 : Nat) : Int)), D.lit (.int .u8 ((48 + u / 10000 % 10 : Nat) : Int)), D.lit (.int .u8 ((48 + u / 1000 % 10 : Nat) : Int)), D.lit (.int .u8 ((48 + u / 100 % 10 : Nat) : Int)), D.lit (.int .u8 ((48 + u / 10 % 10 : Nat) : Int)), D.lit (.int .u8 ((48 + u / 1 % 10 : Nat) : Int))], isByte c := by
    intro c hc
    simp only [List.mem_cons, List.mem_nil_iff, or_false] at hc
    rcases hc with rfl | rfl | rfl | rfl | rfl | rfl | rfl | rfl | rfl | rfl
    · exact isB45
    · exact isB u _
    · exact isB u _
    · exact isB u _
    · exact isB u _
    · exact isB u _
    · exact isB u _
    · exact isB u _
    · exact isB u _
    · exact isB u _
  refine W.need ⟨rfl, hb⟩ ?_
  refine W.ret (RetQ.pure rfl (ret_sD ?_))
  unfold itS Lib.itoa
  rw [if_pos (by omega), Int.natAbs_neg, Int.natAbs_natCast, digs_dec _ u hd]
  rfl
theorem fmtN10 (u : Nat) (h1 : 1 ≤ u) (hu : u < 10000000000) (hl : 1000000000 ≤ u) : Go.Am.Pure Tryz.prog 94 [.d (nI (-(u : Int))), .d (nI 10)] (.d (sD (itS (-(u : Int))))) := by
  refine CallOk.of tysOk mixed od94 Tryz.func94 rfl rfl code94 ?_
  have hd : Lib.nDigits u = 10 := Lib.nDigits_unique 9 u (by simpa using hl) (by simpa using hu)
  have g0 : decide ((0 : Int) ≤ -(u : Int)) = false := decide_eq_false (by omega)
  have g2 : decide (-(u : Int) < 0) = true := decide_eq_true (by omega)
  repeat (first | refine W.ite_t rfl ?_ | refine W.ite_f rfl ?_ | refine W.ite_f g0 ?_ | refine W.ite_t g2 ?_)
  have kd := ok104' u 10 (by omega) (by decide) (by simpa using hl) (by simpa using hu)
  have kb := ok105_10 u hu
  rw [← negw u (by omega)] at kd kb
  refine W.pure kd rfl rfl ?_
  refine W.need (by decide) (W.need (by decide) ?_)
  refine W.callT [0] kb (by decide) rfl rfl rfl rfl ?_
  rintro v σ ⟨rfl, rfl⟩
  repeat (first | refine W.ite_t rfl ?_ | refine W.ite_f rfl ?_ | refine W.ite_f g0 ?_ | refine W.ite_t g2 ?_)
  repeat (first | refine W.need (by decide) ?_ | refine W.ite_t rfl ?_ | refine W.ite_f rfl ?_)
  have hb : ∀ c ∈ [D.lit (.int .u8 45), D.lit (.int .u8 ((48 + u / 1000000000 % 10 : Nat) : Int)), D.lit (.int .u8 ((48 + u / 100000000 % 10 : Nat) : Int)), D.lit (.int .u8 ((48 + u / 10000000 % 10 : Nat) : Int)), D.lit (.int .u8 ((48 + u / 1000000 % 10 : Nat) : Int)), D.lit (.int .u8 ((48 + u / 100000 % 10 : Nat) : Int)), D.lit (.int .u8 ((48 + u / 10000 % 10 : Nat) : Int)), D.lit (.int .u8 ((48 + u / 1000 % 10 : Nat) : Int)), D.lit (.int .u8 ((48 + u / 100 % 10 : Nat) : Int)), D.lit (.int .u8 ((48 + u / 10 % 10 : Nat) : Int)), D.lit (.int .u8 ((48 + u / 1 % 10 : Nat) : Int))], isByte c := by
    intro c hc
    simp only [List.mem_cons, List.mem_nil_iff, or_false] at hc
    rcases hc with rfl | rfl | rfl | rfl | rfl | rfl | rfl | rfl | rfl | rfl | rfl
    · exact isB45
    · exact isB u _
    · exact isB u _
    · exact isB u _
    · exact isB u _
    · exact isB u _
    · exact isB u _
    · exact isB u _
    · exact isB u _
    · exact isB u _
    · exact isB u _
  refine W.need ⟨rfl, hb⟩ ?_
  refine W.ret (RetQ.pure rfl (ret_sD ?_))
  unfold itS Lib.itoa
  rw [if_pos (by omega), Int.natAbs_neg, Int.natAbs_natCast, digs_dec _ u hd]
  rfl
theorem fmtN11 (u : Nat) (h1 : 1 ≤ u) (hu : u < 100000000000) (hl : 10000000000 ≤ u) : Go.Am.Pure Tryz.prog 94 [.d (nI (-(u : Int))), .d (nI 10)] (.d (sD (itS (-(u : Int))))) := by
  refine CallOk.of tysOk mixed od94 Tryz.func94 rfl rfl code94 ?_
  have hd : Lib.nDigits u = 11 := Lib.nDigits_unique 10 u (by simpa using hl) (by simpa using hu)
  have g0 : decide ((0 : Int) ≤ -(u : Int)) = false := decide_eq_false (by omega)
  have g2 : decide (-(u : Int) < 0) = true := decide_eq_true (by omega)
  repeat (first | refine W.ite_t rfl ?_ | refine W.ite_f rfl ?_ | refine W.ite_f g0 ?_ | refine W.ite_t g2 ?_)
  have kd := ok104' u 11 (by omega) (by decide) (by simpa using hl) (by simpa using hu)
  have kb := ok105_11 u hu
  rw [← negw u (by omega)] at kd kb
  refine W.pure kd rfl rfl ?_
  refine W.need (by decide) (W.need (by decide) ?_)
  refine W.callT [0] kb (by decide) rfl rfl rfl rfl ?_
  rintro v σ ⟨rfl, rfl⟩
  repeat (first | refine W.ite_t rfl ?_ | refine W.ite_f rfl ?_ | refine W.ite_f g0 ?_ | refine W.ite_t g2 ?_)
  repeat (first | refine W.need (by decide) ?_ | refine W.ite_t rfl ?_ | refine W.ite_f rfl ?_)
  have hb : ∀ c ∈ [D.lit (.int .u8 45), D.lit (.int .u8 ((48 + u / 10000000000 % 10 : Nat) : Int)), D.lit (.int .u8 ((48 + u / 1000000000 % 10 : Nat) : Int)), D.lit (.int .u8 ((48 + u / 100000000 % 10 : Nat) : Int)), D.lit (.int .u8 ((48 + u / 10000000 % 10 : Nat) : Int)), D.lit (.int .u8 ((48 + u / 1000000 % 10 : Nat) : Int)), D.lit (.int .u8 ((48 + u / 100000 % 10 : Nat) : Int)), D.lit (.int .u8 ((48 + u / 10000 % 10 : Nat) : Int)), D.lit (.int .u8 ((48 + u / 1000 % 10 : Nat) : Int)), D.lit (.int .u8 ((48 + u / 100 % 10 : Nat) : Int)), D.lit (.int .u8 ((48 + u / 10 % 10 : Nat) : Int)), D.lit (.int .u8 ((48 + u / 1 % 10 : Nat) : Int))], isByte c := by
    intro c hc
    simp only [List.mem_cons, List.mem_nil_iff, or_false] at hc
    rcases hc with rfl | rfl | rfl | rfl | rfl | rfl | rfl | rfl | rfl | rfl | rfl | rfl
    · exact isB45
    · exact isB u _
    · exact isB u _
    · exact isB u _
    · exact isB u _
    · exact isB u _
    · exact isB u _
    · exact isB u _
    · exact isB u _
    · exact isB u _
    · exact isB u _
    · exact isB u _
  refine W.need ⟨rfl, hb⟩ ?_
  refine W.ret (RetQ.pure rfl (ret_sD ?_))
  unfold itS Lib.itoa
  rw [if_pos (by omega), Int.natAbs_neg, Int.natAbs_natCast, digs_dec _ u hd]
  rfl
theorem fmtN12 (u : Nat) (h1 : 1 ≤ u) (hu : u < 1000000000000) (hl : 100000000000 ≤ u) : Go.Am.Pure Tryz.prog 94 [.d (nI (-(u : Int))), .d (nI 10)] (.d (sD (itS (-(u : Int))))) := by
  refine CallOk.of tysOk mixed od94 Tryz.func94 rfl rfl code94 ?_
  have hd : Lib.nDigits u = 12 := Lib.nDigits_unique 11 u (by simpa using hl) (by simpa using hu)
  have g0 : decide ((0 : Int) ≤ -(u : Int)) = false := decide_eq_false (by omega)
  have g2 : decide (-(u : Int) < 0) = true := decide_eq_true (by omega)
  repeat (first | refine W.ite_t rfl ?_ | refine W.ite_f rfl ?_ | refine W.ite_f g0 ?_ | refine W.ite_t g2 ?_)
  have kd := ok104' u 12 (by omega) (by decide) (by simpa using hl) (by simpa using hu)
  have kb := ok105_12 u hu
  rw [← negw u (by omega)] at kd kb
  refine W.pure kd rfl rfl ?_
  refine W.need (by decide) (W.need (by decide) ?_)
  refine W.callT [0] kb (by decide) rfl rfl rfl rfl ?_
  rintro v σ ⟨rfl, rfl⟩
  repeat (first | refine W.ite_t rfl ?_ | refine W.ite_f rfl ?_ | refine W.ite_f g0 ?_ | refine W.ite_t g2 ?_)
  repeat (first | refine W.need (by decide) ?_ | refine W.ite_t rfl ?_ | refine W.ite_f rfl ?_)
  have hb : ∀ c ∈ [D.lit (.int .u8 45), D.lit (.int .u8 ((48 + u / 100000000000 % 10 : Nat) : Int)), D.lit (.int .u8 ((48 + u / 10000000000 % 10 : Nat) : Int)), D.lit (.int .u8 ((48 + u / 1000000000 % 10 : Nat) : Int)), D.lit (.int .u8 ((48 + u / 100000000 % 10 : Nat) : Int)), D.lit (.int .u8 ((48 + u / 10000000 % 10 : Nat) : Int)), D.lit (.int .u8 ((48 + u / 1000000 % 10 : Nat) : Int)), D.lit (.int .u8 ((48 + u / 100000 % 10 : Nat) : Int)), D.lit (.int .u8 ((48 + u / 10000 % 10 : Nat) : Int)), D.lit (.int .u8 ((48 + u / 1000 % 10 : Nat) : Int)), D.lit (.int .u8 ((48 + u / 100 % 10 : Nat) : Int)), D.lit (.int .u8 ((48 + u / 10 % 10 : Nat) : Int)), D.lit (.int .u8 ((48 + u / 1 % 10 : Nat) : Int))], isByte c := by
    intro c hc
    simp only [List.mem_cons, List.mem_nil_iff, or_false] at hc
    rcases hc with rfl | rfl | rfl | rfl | rfl | rfl | rfl | rfl | rfl | rfl | rfl | rfl | rfl
    · exact isB45
    · exact isB u _
    · exact isB u _
    · exact isB u _
    · exact isB u _
    · exact isB u _
    · exact isB u _
    · exact isB u _
    · exact isB u _
    · exact isB u _
    · exact isB u _
    · exact isB u _
    · exact isB u _
  refine W.need ⟨rfl, hb⟩ ?_
  refine W.ret (RetQ.pure rfl (ret_sD ?_))
  unfold itS Lib.itoa
  rw [if_pos (by omega), Int.natAbs_neg, Int.natAbs_natCast, digs_dec _ u hd]
  rfl
theorem fmtN13 (u : Nat) (h1 : 1 ≤ u) (hu : u < 10000000000000) (hl : 1000000000000 ≤ u) : Go.Am.Pure Tryz.prog 94 [.d (nI (-(u : Int))), .d (nI 10)] (.d (sD (itS (-(u : Int))))) := by
  refine CallOk.of tysOk mixed od94 Tryz.func94 rfl rfl code94 ?_
  have hd : Lib.nDigits u = 13 := Lib.nDigits_unique 12 u (by simpa using hl) (by simpa using hu)
  have g0 : decide ((0 : Int) ≤ -(u : Int)) = false := decide_eq_false (by omega)
  have g2 : decide (-(u : Int) < 0) = true := decide_eq_true (by omega)
  repeat (first | refine W.ite_t rfl ?_ | refine W.ite_f rfl ?_ | refine W.ite_f g0 ?_ | refine W.ite_t g2 ?_)
  have kd := ok104' u 13 (by omega) (by decide) (by simpa using hl) (by simpa using hu)
  have kb := ok105_13 u hu
  rw [← negw u (by omega)] at kd kb
  refine W.pure kd rfl rfl ?_
  refine W.need (by decide) (W.need (by decide) ?_)
  refine W.callT [0] kb (by decide) rfl rfl rfl rfl ?_
  rintro v σ ⟨rfl, rfl⟩
  repeat (first | refine W.ite_t rfl ?_ | refine W.ite_f rfl ?_ | refine W.ite_f g0 ?_ | refine W.ite_t g2 ?_)
  repeat (first | refine W.need (by decide) ?_ | refine W.ite_t rfl ?_ | refine W.ite_f rfl ?_)
  have hb : ∀ c ∈ [D.lit (.int .u8 45), D.lit (.int .u8 ((48 + u / 1000000000000 % 10 : Nat) : Int)), D.lit (.int .u8 ((48 + u / 100000000000 % 10 : Nat) : Int)), D.lit (.int .u8 ((48 + u / 10000000000 % 10 : Nat) : Int)), D.lit (.int .u8 ((48 + u / 1000000000 % 10 : Nat) : Int)), D.lit (.int .u8 ((48 + u / 100000000 % 10 : Nat) : Int)), D.lit (.int .u8 ((48 + u / 10000000 % 10 : Nat) : Int)), D.lit (.int .u8 ((48 + u / 1000000 % 10 : Nat) : Int)), D.lit (.int .u8 ((48 + u / 100000 % 10 : Nat) : Int)), D.lit (.int .u8 ((48 + u / 10000 % 10 : Nat) : Int)), D.lit (.int .u8 ((48 + u / 1000 % 10 : Nat) : Int)), D.lit (.int .u8 ((48 + u / 100 % 10 : Nat) : Int)), D.lit (.int .u8 ((48 + u / 10 % 10 : Nat) : Int)), D.lit (.int .u8 ((48 + u / 1 % 10 : Nat) : Int))], isByte c := by
    intro c hc
    simp only [List.mem_cons, List.mem_nil_iff, or_false] at hc
    rcases hc with rfl | rfl | rfl | rfl | rfl | rfl | rfl | rfl | rfl | rfl | rfl | rfl | rfl | rfl
    · exact isB45
    · exact isB u _
    · exact isB u _
    · exact isB u _
    · exact isB u _
    · exact isB u _
    · exact isB u _
    · exact isB u _
    · exact isB u _
    · exact isB u _
    · exact isB u _
    · exact isB u _
    · exact isB u _
    · exact isB u _
  refine W.need ⟨rfl, hb⟩ ?_
  refine W.ret (RetQ.pure rfl (ret_sD ?_))
  unfold itS Lib.itoa
  rw [if_pos (by omega), Int.natAbs_neg, Int.natAbs_natCast, digs_dec _ u hd]
  rfl
theorem fmtN14 (u : Nat) (h1 : 1 ≤ u) (hu : u < 100000000000000) (hl : 10000000000000 ≤ u) : Go.Am.Pure Tryz.prog 94 [.d (nI (-(u : Int))), .d (nI 10)] (.d (sD (itS (-(u : Int))))) := by
  refine CallOk.of tysOk mixed od94 Tryz.func94 rfl rfl code94 ?_
  have hd : Lib.nDigits u = 14 := Lib.nDigits_unique 13 u (by simpa using hl) (by simpa using hu)
  have g0 : decide ((0 : Int) ≤ -(u : Int)) = false := decide_eq_false (by omega)
  have g2 : decide (-(u : Int) < 0) = true := decide_eq_true (by omega)
  repeat (first | refine W.ite_t rfl ?_ | refine W.ite_f rfl ?_ | refine W.ite_f g0 ?_ | refine W.ite_t g2 ?_)
  have kd := ok104' u 14 (by omega) (by decide) (by simpa using hl) (by simpa using hu)
  have kb := ok105_14 u hu
  rw [← negw u (by omega)] at kd kb
  refine W.pure kd rfl rfl ?_
  refine W.need (by decide) (W.need (by decide) ?_)
  refine W.callT [0] kb (by decide) rfl rfl rfl rfl ?_
  rintro v σ ⟨rfl, rfl⟩
  repeat (first | refine W.ite_t rfl ?_ | refine W.ite_f rfl ?_ | refine W.ite_f g0 ?_ | refine W.ite_t g2 ?_)
  repeat (first | refine W.need (by decide) ?_ | refine W.ite_t rfl ?_ | refine W.ite_f rfl ?_)
  have hb : ∀ c ∈ [D.lit (.int .u8 45), D.lit (.int .u8 ((48 + u / 10000000000000 % 10 : Nat) : Int)), D.lit (.int .u8 ((48 + u / 1000000000000 % 10 : Nat) : Int)), D.lit (.int .u8 ((48 + u / 100000000000 % 10 : Nat) : Int)), D.lit (.int .u8 ((48 + u / 10000000000 % 10 : Nat) : Int)), D.lit (.int .u8 ((48 + u / 1000000000 % 10 : Nat) : Int)), D.lit (.int .u8 ((48 + u / 100000000 % 10 : Nat) : Int)), D.lit (.int .u8 ((48 + u / 10000000 % 10 : Nat) : Int)), D.lit (.int .u8 ((48 + u / 1000000 % 10 : Nat) : Int)), D.lit (.int .u8 ((48 + u / 100000 % 10 : Nat) : Int)), D.lit (.int .u8 ((48 + u / 10000 % 10 : Nat) : Int)), D.lit (.int .u8 ((48 + u / 1000 % 10 : Nat) : Int)), D.lit (.int .u8 ((48 + u / 100 % 10 : Nat) : Int)), D.lit (.int .u8 ((48 + u / 10 % 10 : Nat) : Int)), D.lit (.int .u8 ((48 + u / 1 % 10 : Nat) : Int))], isByte c := by
    intro c hc
    simp only [List.mem_cons, List.mem_nil_iff, or_false] at hc
    rcases hc with rfl | rfl | rfl | rfl | rfl | rfl | rfl | rfl | rfl | rfl | rfl | rfl | rfl | rfl | rfl
    · exact isB45
    · exact isB u _
    · exact isB u _
    · exact isB u _
    · exact isB u _
    · exact isB u _
    · exact isB u _
    · exact isB u _
    · exact isB u _
    · exact isB u _
    · exact isB u _
    · exact isB u _
    · exact isB u _
    · exact isB u _
    · exact isB u _
  refine W.need ⟨rfl, hb⟩ ?_
  refine W.ret (RetQ.pure rfl (ret_sD ?_))
  unfold itS Lib.itoa
  rw [if_pos (by omega), Int.natAbs_neg, Int.natAbs_natCast, digs_dec _ u hd]
  rfl
theorem fmtN15 (u : Nat) (h1 : 1 ≤ u) (hu : u < 1000000000000000) (hl : 100000000000000 ≤ u) : Go.Am.Pure Tryz.prog 94 [.d (nI (-(u : Int))), .d (nI 10)] (.d (sD (itS (-(u : Int))))) := by
  refine CallOk.of tysOk mixed od94 Tryz.func94 rfl rfl code94 ?_
  have hd : Lib.nDigits u = 15 := Lib.nDigits_unique 14 u (by simpa using hl) (by simpa using hu)
  have g0 : decide ((0 : Int) ≤ -(u : Int)) = false := decide_eq_false (by omega)
  have g2 : decide (-(u : Int) < 0) = true := decide_eq_true (by omega)
  repeat (first | refine W.ite_t rfl ?_ | refine W.ite_f rfl ?_ | refine W.ite_f g0 ?_ | refine W.ite_t g2 ?_)
  have kd := ok104' u 15 (by omega) (by decide) (by simpa using hl) (by simpa using hu)
  have kb := ok105_15 u hu
  rw [← negw u (by omega)] at kd kb
  refine W.pure kd rfl rfl ?_
  refine W.need (by decide) (W.need (by decide) ?_)
  refine W.callT [0] kb (by decide) rfl rfl rfl rfl ?_
  rintro v σ ⟨rfl, rfl⟩
  repeat (first | refine W.ite_t rfl ?_ | refine W.ite_f rfl ?_ | refine W.ite_f g0 ?_ | refine W.ite_t g2 ?_)
  repeat (first | refine W.need (by decide) ?_ | refine W.ite_t rfl ?_ | refine W.ite_f rfl ?_)
  have hb : ∀ c ∈ [D.lit (.int .u8 45), D.lit (.int .u8 ((48 + u / 100000000000000 % 10 : Nat) : Int)), D.lit (.int .u8 ((48 + u / 10000000000000 % 10 : Nat) : Int)), D.lit (.int .u8 ((48 + u / 1000000000000 % 10 : Nat) : Int)), D.lit (.int .u8 ((48 + u / 100000000000 % 10 : Nat) : Int)), D.lit (.int .u8 ((48 + u / 10000000000 % 10 : Nat) : Int)), D.lit (.int .u8 ((48 + u / 1000000000 % 10 : Nat) : Int)), D.lit (.int .u8 ((48 + u / 100000000 % 10 : Nat) : Int)), D.lit (.int .u8 ((48 + u / 10000000 % 10 : Nat) : Int)), D.lit (.int .u8 ((48 + u / 1000000 % 10 : Nat) : Int)), D.lit (.int .u8 ((48 + u / 100000 % 10 : Nat) : Int)), D.lit (.int .u8 ((48 + u / 10000 % 10 : Nat) : Int)), D.lit (.int .u8 ((48 + u / 1000 % 10 : Nat) : Int)), D.lit (.int .u8 ((48 + u / 100 % 10 : Nat) : Int)), D.lit (.int .u8 ((48 + u / 10 % 10 : Nat) : Int)), D.lit (.int .u8 ((48 + u / 1 % 10 : Nat) : Int))], isByte c := by
    intro c hc
    simp only [List.mem_cons, List.mem_nil_iff, or_false] at hc
    rcases hc with rfl | rfl | rfl | rfl | rfl | rfl | rfl | rfl | rfl | rfl | rfl | rfl | rfl | rfl | rfl | rfl
    · exact isB45
    · exact isB u _
    · exact isB u _
    · exact isB u _
    · exact isB u _
    · exact isB u _
    · exact isB u _
    · exact isB u _
    · exact isB u _
    · exact isB u _
    · exact isB u _
    · exact isB u _
    · exact isB u _
    · exact isB u _
    · exact isB u _
    · exact isB u _
  refine W.need ⟨rfl, hb⟩ ?_
  refine W.ret (RetQ.pure rfl (ret_sD ?_))
  unfold itS Lib.itoa
  rw [if_pos (by omega), Int.natAbs_neg, Int.natAbs_natCast, digs_dec _ u hd]
  rfl
theorem fmtN16 (u : Nat) (h1 : 1 ≤ u) (hu : u < 10000000000000000) (hl : 1000000000000000 ≤ u) : Go.Am.Pure Tryz.prog 94 [.d (nI (-(u : Int))), .d (nI 10)] (.d (sD (itS (-(u : Int))))) := by
  refine CallOk.of tysOk mixed od94 Tryz.func94 rfl rfl code94 ?_
  have hd : Lib.nDigits u = 16 := Lib.nDigits_unique 15 u (by simpa using hl) (by simpa using hu)
  have g0 : decide ((0 : Int) ≤ -(u : Int)) = false := decide_eq_false (by omega)
  have g2 : decide (-(u : Int) < 0) = true := decide_eq_true (by omega)
  repeat (first | refine W.ite_t rfl ?_ | refine W.ite_f rfl ?_ | refine W.ite_f g0 ?_ | refine W.ite_t g2 ?_)
  have kd := ok104' u 16 (by omega) (by decide) (by simpa using hl) (by simpa using hu)
  have kb := ok105_16 u hu
  rw [← negw u (by omega)] at kd kb
  refine W.pure kd rfl rfl ?_
  refine W.need (by decide) (W.need (by decide) ?_)
  refine W.callT [0] kb (by decide) rfl rfl rfl rfl ?_
  rintro v σ ⟨rfl, rfl⟩
  repeat (first | refine W.ite_t rfl ?_ | refine W.ite_f rfl ?_ | refine W.ite_f g0 ?_ | refine W.ite_t g2 ?_)
  repeat (first | refine W.need (by decide) ?_ | refine W.ite_t rfl ?_ | refine W.ite_f rfl ?_)
  have hb : ∀ c ∈ [D.lit (.int .u8 45), D.lit (.int .u8 ((48 + u / 1000000000000000 % 10 : Nat) : Int)), D.lit (.int .u8 ((48 + u / 100000000000000 % 10 : Nat) : Int)), D.lit (.int .u8 ((48 + u / 10000000000000 % 10 : Nat) : Int)), D.lit (.int .u8 ((48 + u / 1000000000000 % 10 : Nat) : Int)), D.lit (.int .u8 ((48 + u / 100000000000 % 10 : Nat) : Int)), D.lit (.int .u8 ((48 + u / 10000000000 % 10 : Nat) : Int)), D.lit (.int .u8 ((48 + u / 1000000000 % 10 : Nat) : Int)), D.lit (.int .u8 ((48 + u / 100000000 % 10 : Nat) : Int)), D.lit (.int .u8 ((48 + u / 10000000 % 10 : Nat) : Int)), D.lit (.int .u8 ((48 + u / 1000000 % 10 : Nat) : Int)), D.lit (.int .u8 ((48 + u / 100000 % 10 : Nat) : Int)), D.lit (.int .u8 ((48 + u / 10000 % 10 : Nat) : Int)), D.lit (.int .u8 ((48 + u / 1000 % 10 : Nat) : Int)), D.lit (.int .u8 ((48 + u / 100 % 10 : Nat) : Int)), D.lit (.int .u8 ((48 + u / 10 % 10 : Nat) : Int)), D.lit (.int .u8 ((48 + u / 1 % 10 : Nat) : Int))], isByte c := by
    intro c hc
    simp only [List.mem_cons, List.mem_nil_iff, or_false] at hc
    rcases hc with rfl | rfl | rfl | rfl | rfl | rfl | rfl | rfl | rfl | rfl | rfl | rfl | rfl | rfl | rfl | rfl | rfl
    · exact isB45
    · exact isB u _
    · exact isB u _
    · exact isB u _
    · exact isB u _
    · exact isB u _
    · exact isB u _
    · exact isB u _
    · exact isB u _
    · exact isB u _
    · exact isB u _
    · exact isB u _
    · exact isB u _
    · exact isB u _
    · exact isB u _
    · exact isB u _
    · exact isB u _
  refine W.need ⟨rfl, hb⟩ ?_
  refine W.ret (RetQ.pure rfl (ret_sD ?_))
  unfold itS Lib.itoa
  rw [if_pos (by omega), Int.natAbs_neg, Int.natAbs_natCast, digs_dec _ u hd]
  rfl
theorem fmtN17 (u : Nat) (h1 : 1 ≤ u) (hu : u < 100000000000000000) (hl : 10000000000000000 ≤ u) : Go.Am.Pure Tryz.prog 94 [.d (nI (-(u : Int))), .d (nI 10)] (.d (sD (itS (-(u : Int))))) := by
  refine CallOk.of tysOk mixed od94 Tryz.func94 rfl rfl code94 ?_
  have hd : Lib.nDigits u = 17 := Lib.nDigits_unique 16 u (by simpa using hl) (by simpa using hu)
  have g0 : decide ((0 : Int) ≤ -(u : Int)) = false := decide_eq_false (by omega)
  have g2 : decide (-(u : Int) < 0) = true := decide_eq_true (by omega)
  repeat (first | refine W.ite_t rfl ?_ | refine W.ite_f rfl ?_ | refine W.ite_f g0 ?_ | refine W.ite_t g2 ?_)
  have kd := ok104' u 17 (by omega) (by decide) (by simpa using hl) (by simpa using hu)
  have kb := ok105_17 u hu
  rw [← negw u (by omega)] at kd kb
  refine W.pure kd rfl rfl ?_
  refine W.need (by decide) (W.need (by decide) ?_)
  refine W.callT [0] kb (by decide) rfl rfl rfl rfl ?_
  rintro v σ ⟨rfl, rfl⟩
  repeat (first | refine W.ite_t rfl ?_ | refine W.ite_f rfl ?_ | refine W.ite_f g0 ?_ | refine W.ite_t g2 ?_)
  repeat (first | refine W.need (by decide) ?_ | refine W.ite_t rfl ?_ | refine W.ite_f rfl ?_)
  have hb : ∀ c ∈ [D.lit (.int .u8 45), D.lit (.int .u8 ((48 + u / 10000000000000000 % 10 : Nat) : Int)), D.lit (.int .u8 ((48 + u / 1000000000000000 % 10 : Nat) : Int)), D.lit (.int .u8 ((48 + u / 100000000000000 % 10 : Nat) : Int)), D.lit (.int .u8 ((48 + u / 10000000000000 % 10 : Nat) : Int)), D.lit (.int .u8 ((48 + u / 1000000000000 % 10 : Nat) : Int)), D.lit (.int .u8 ((48 + u / 100000000000 % 10 : Nat) : Int)), D.lit (.int .u8 ((48 + u / 10000000000 % 10 : Nat) : Int)), D.lit (.int .u8 ((48 + u / 1000000000 % 10 : Nat) : Int)), D.lit (.int .u8 ((48 + u / 100000000 % 10 : Nat) : Int)), D.lit (.int .u8 ((48 + u / 10000000 % 10 : Nat) : Int)), D.lit (.int .u8 ((48 + u / 1000000 % 10 : Nat) : Int)), D.lit (.int .u8 ((48 + u / 100000 % 10 : Nat) : Int)), D.lit (.int .u8 ((48 + u / 10000 % 10 : Nat) : Int)), D.lit (.int .u8 ((48 + u / 1000 % 10 : Nat) : Int)), D.lit (.int .u8 ((48 + u / 100 % 10 : Nat) : Int)), D.lit (.int .u8 ((48 + u / 10 % 10 : Nat) : Int)), D.lit (.int .u8 ((48 + u / 1 % 10 : Nat) : Int))], isByte c := by
    intro c hc
    simp only [List.mem_cons, List.mem_nil_iff, or_false] at hc
    rcases hc with rfl | rfl | rfl | rfl | rfl | rfl | rfl | rfl | rfl | rfl | rfl | rfl | rfl | rfl | rfl | rfl | rfl | rfl
    · exact isB45
    · exact isB u _
    · exact isB u _
    · exact isB u _
    · exact isB u _
    · exact isB u _
    · exact isB u _
    · exact isB u _
    · exact isB u _
    · exact isB u _
    · exact isB u _
    · exact isB u _
    · exact isB u _
    · exact isB u _
    · exact isB u _
    · exact isB u _
    · exact isB u _
    · exact isB u _
  refine W.need ⟨rfl, hb⟩ ?_
  refine W.ret (RetQ.pure rfl (ret_sD ?_))
  unfold itS Lib.itoa
  rw [if_pos (by omega), Int.natAbs_neg, Int.natAbs_natCast, digs_dec _ u hd]
  rfl
theorem fmtN18 (u : Nat) (h1 : 1 ≤ u) (hu : u < 1000000000000000000) (hl : 100000000000000000 ≤ u) : Go.Am.Pure Tryz.prog 94 [.d (nI (-(u : Int))), .d (nI 10)] (.d (sD (itS (-(u : Int))))) := by
  refine CallOk.of tysOk mixed od94 Tryz.func94 rfl rfl code94 ?_
  have hd : Lib.nDigits u = 18 := Lib.nDigits_unique 17 u (by simpa using hl) (by simpa using hu)
  have g0 : decide ((0 : Int) ≤ -(u : Int)) = false := decide_eq_false (by omega)
  have g2 : decide (-(u : Int) < 0) = true := decide_eq_true (by omega)
  repeat (first | refine W.ite_t rfl ?_ | refine W.ite_f rfl ?_ | refine W.ite_f g0 ?_ | refine W.ite_t g2 ?_)
  have kd := ok104' u 18 (by omega) (by decide) (by simpa using hl) (by simpa using hu)
  have kb := ok105_18 u hu
  rw [← negw u (by omega)] at kd kb
  refine W.pure kd rfl rfl ?_
  refine W.need (by decide) (W.need (by decide) ?_)
  refine W.callT [0] kb (by decide) rfl rfl rfl rfl ?_
  rintro v σ ⟨rfl, rfl⟩
  repeat (first | refine W.ite_t rfl ?_ | refine W.ite_f rfl ?_ | refine W.ite_f g0 ?_ | refine W.ite_t g2 ?_)
  repeat (first | refine W.need (by decide) ?_ | refine W.ite_t rfl ?_ | refine W.ite_f rfl ?_)
  have hb : ∀ c ∈ [D.lit (.int .u8 45), D.lit (.int .u8 ((48 + u / 100000000000000000 % 10 : Nat) : Int)), D.lit (.int .u8 ((48 + u / 10000000000000000 % 10 : Nat) : Int)), D.lit (.int .u8 ((48 + u / 1000000000000000 % 10 : Nat) : Int)), D.lit (.int .u8 ((48 + u / 100000000000000 % 10 : Nat) : Int)), D.lit (.int .u8 ((48 + u / 10000000000000 % 10 : Nat) : Int)), D.lit (.int .u8 ((48 + u / 1000000000000 % 10 : Nat) : Int)), D.lit (.int .u8 ((48 + u / 100000000000 % 10 : Nat) : Int)), D.lit (.int .u8 ((48 + u / 10000000000 % 10 : Nat) : Int)), D.lit (.int .u8 ((48 + u / 1000000000 % 10 : Nat) : Int)), D.lit (.int .u8 ((48 + u / 100000000 % 10 : Nat) : Int)), D.lit (.int .u8 ((48 + u / 10000000 % 10 : Nat) : Int)), D.lit (.int .u8 ((48 + u / 1000000 % 10 : Nat) : Int)), D.lit (.int .u8 ((48 + u / 100000 % 10 : Nat) : Int)), D.lit (.int .u8 ((48 + u / 10000 % 10 : Nat) : Int)), D.lit (.int .u8 ((48 + u / 1000 % 10 : Nat) : Int)), D.lit (.int .u8 ((48 + u / 100 % 10 : Nat) : Int)), D.lit (.int .u8 ((48 + u / 10 % 10 : Nat) : Int)), D.lit (.int .u8 ((48 + u / 1 % 10 : Nat) : Int))], isByte c := by
    intro c hc
    simp only [List.mem_cons, List.mem_nil_iff, or_false] at hc
    rcases hc with rfl | rfl | rfl | rfl | rfl | rfl | rfl | rfl | rfl | rfl | rfl | rfl | rfl | rfl | rfl | rfl | rfl | rfl | rfl
    · exact isB45
    · exact isB u _
    · exact isB u _
    · exact isB u _
    · exact isB u _
    · exact isB u _
    · exact isB u _
    · exact isB u _
    · exact isB u _
    · exact isB u _
    · exact isB u _
    · exact isB u _
    · exact isB u _
    · exact isB u _
    · exact isB u _
    · exact isB u _
    · exact isB u _
    · exact isB u _
    · exact isB u _
  refine W.need ⟨rfl, hb⟩ ?_
  refine W.ret (RetQ.pure rfl (ret_sD ?_))
  unfold itS Lib.itoa
  rw [if_pos (by omega), Int.natAbs_neg, Int.natAbs_natCast, digs_dec _ u hd]
  rfl
theorem fmtN19 (u : Nat) (h1 : 1 ≤ u) (hu : u < 10000000000000000000) (hl : 1000000000000000000 ≤ u) (h9 : u ≤ 9223372036854775808) : Go.Am.Pure Tryz.prog 94 [.d (nI (-(u : Int))), .d (nI 10)] (.d (sD (itS (-(u : Int))))) := by
  refine CallOk.of tysOk mixed od94 Tryz.func94 rfl rfl code94 ?_
  have hd : Lib.nDigits u = 19 := Lib.nDigits_unique 18 u (by simpa using hl) (by simpa using hu)
  have g0 : decide ((0 : Int) ≤ -(u : Int)) = false := decide_eq_false (by omega)
  have g2 : decide (-(u : Int) < 0) = true := decide_eq_true (by omega)
  repeat (first | refine W.ite_t rfl ?_ | refine W.ite_f rfl ?_ | refine W.ite_f g0 ?_ | refine W.ite_t g2 ?_)
  have kd := ok104' u 19 (by omega) (by decide) (by simpa using hl) (by simpa using hu)
  have kb := ok105_19 u hu
  rw [← negw u (by omega)] at kd kb
  refine W.pure kd rfl rfl ?_
  refine W.need (by decide) (W.need (by decide) ?_)
  refine W.callT [0] kb (by decide) rfl rfl rfl rfl ?_
  rintro v σ ⟨rfl, rfl⟩
  repeat (first | refine W.ite_t rfl ?_ | refine W.ite_f rfl ?_ | refine W.ite_f g0 ?_ | refine W.ite_t g2 ?_)
  repeat (first | refine W.need (by decide) ?_ | refine W.ite_t rfl ?_ | refine W.ite_f rfl ?_)
  have hb : ∀ c ∈ [D.lit (.int .u8 45), D.lit (.int .u8 ((48 + u / 1000000000000000000 % 10 : Nat) : Int)), D.lit (.int .u8 ((48 + u / 100000000000000000 % 10 : Nat) : Int)), D.lit (.int .u8 ((48 + u / 10000000000000000 % 10 : Nat) : Int)), D.lit (.int .u8 ((48 + u / 1000000000000000 % 10 : Nat) : Int)), D.lit (.int .u8 ((48 + u / 100000000000000 % 10 : Nat) : Int)), D.lit (.int .u8 ((48 + u / 10000000000000 % 10 : Nat) : Int)), D.lit (.int .u8 ((48 + u / 1000000000000 % 10 : Nat) : Int)), D.lit (.int .u8 ((48 + u / 100000000000 % 10 : Nat) : Int)), D.lit (.int .u8 ((48 + u / 10000000000 % 10 : Nat) : Int)), D.lit (.int .u8 ((48 + u / 1000000000 % 10 : Nat) : Int)), D.lit (.int .u8 ((48 + u / 100000000 % 10 : Nat) : Int)), D.lit (.int .u8 ((48 + u / 10000000 % 10 : Nat) : Int)), D.lit (.int .u8 ((48 + u / 1000000 % 10 : Nat) : Int)), D.lit (.int .u8 ((48 + u / 100000 % 10 : Nat) : Int)), D.lit (.int .u8 ((48 + u / 10000 % 10 : Nat) : Int)), D.lit (.int .u8 ((48 + u / 1000 % 10 : Nat) : Int)), D.lit (.int .u8 ((48 + u / 100 % 10 : Nat) : Int)), D.lit (.int .u8 ((48 + u / 10 % 10 : Nat) : Int)), D.lit (.int .u8 ((48 + u / 1 % 10 : Nat) : Int))], isByte c := by
    intro c hc
    simp only [List.mem_cons, List.mem_nil_iff, or_false] at hc
    rcases hc with rfl | rfl | rfl | rfl | rfl | rfl | rfl | rfl | rfl | rfl | rfl | rfl | rfl | rfl | rfl | rfl | rfl | rfl | rfl | rfl
    · exact isB45
    · exact isB u _
    · exact isB u _
    · exact isB u _
    · exact isB u _
    · exact isB u _
    · exact isB u _
    · exact isB u _
    · exact isB u _
    · exact isB u _
    · exact isB u _
    · exact isB u _
    · exact isB u _
    · exact isB u _
    · exact isB u _
    · exact isB u _
    · exact isB u _
    · exact isB u _
    · exact isB u _
    · exact isB u _
  refine W.need ⟨rfl, hb⟩ ?_
  refine W.ret (RetQ.pure rfl (ret_sD ?_))
  unfold itS Lib.itoa
  rw [if_pos (by omega), Int.natAbs_neg, Int.natAbs_natCast, digs_dec _ u hd]
  rfl
theorem ok94i (n : Int) (h0 : -9223372036854775808 ≤ n) (h1 : n ≤ 9223372036854775807) : Go.Am.Pure Tryz.prog 94 [.d (nI n), .d (nI 10)] (.d (sD (itS n))) := by
  by_cases hs : 0 ≤ n
  · obtain ⟨u, rfl⟩ := Int.eq_ofNat_of_zero_le hs
    by_cases hu : u < 100
    · have := ok94 u (by omega)
      rwa [numS_itS u hu] at this
    · have hc : (100 ≤ u ∧ u < 1000) ∨ (1000 ≤ u ∧ u < 10000) ∨ (10000 ≤ u ∧ u < 100000) ∨ (100000 ≤ u ∧ u < 1000000) ∨ (1000000 ≤ u ∧ u < 10000000) ∨ (10000000 ≤ u ∧ u < 100000000) ∨ (100000000 ≤ u ∧ u < 1000000000) ∨ (1000000000 ≤ u ∧ u < 10000000000) ∨ (10000000000 ≤ u ∧ u < 100000000000) ∨ (100000000000 ≤ u ∧ u < 1000000000000) ∨ (1000000000000 ≤ u ∧ u < 10000000000000) ∨ (10000000000000 ≤ u ∧ u < 100000000000000) ∨ (100000000000000 ≤ u ∧ u < 1000000000000000) ∨ (1000000000000000 ≤ u ∧ u < 10000000000000000) ∨ (10000000000000000 ≤ u ∧ u < 100000000000000000) ∨ (100000000000000000 ≤ u ∧ u < 1000000000000000000) ∨ (1000000000000000000 ≤ u ∧ u < 10000000000000000000) := by omega
      rcases hc with ⟨a, b⟩ | ⟨a, b⟩ | ⟨a, b⟩ | ⟨a, b⟩ | ⟨a, b⟩ | ⟨a, b⟩ | ⟨a, b⟩ | ⟨a, b⟩ | ⟨a, b⟩ | ⟨a, b⟩ | ⟨a, b⟩ | ⟨a, b⟩ | ⟨a, b⟩ | ⟨a, b⟩ | ⟨a, b⟩ | ⟨a, b⟩ | ⟨a, b⟩
      · exact fmtP3 u (by omega) b a
      · exact fmtP4 u (by omega) b a
      · exact fmtP5 u (by omega) b a
      · exact fmtP6 u (by omega) b a
      · exact fmtP7 u (by omega) b a
      · exact fmtP8 u (by omega) b a
      · exact fmtP9 u (by omega) b a
      · exact fmtP10 u (by omega) b a
      · exact fmtP11 u (by omega) b a
      · exact fmtP12 u (by omega) b a
      · exact fmtP13 u (by omega) b a
      · exact fmtP14 u (by omega) b a
      · exact fmtP15 u (by omega) b a
      · exact fmtP16 u (by omega) b a
      · exact fmtP17 u (by omega) b a
      · exact fmtP18 u (by omega) b a
      · exact fmtP19 u (by omega) b a (by omega)
  · obtain ⟨u, rfl⟩ : ∃ u : Nat, n = -(u : Int) := ⟨n.natAbs, by omega⟩
    have hc : (1 ≤ u ∧ u < 10) ∨ (10 ≤ u ∧ u < 100) ∨ (100 ≤ u ∧ u < 1000) ∨ (1000 ≤ u ∧ u < 10000) ∨ (10000 ≤ u ∧ u < 100000) ∨ (100000 ≤ u ∧ u < 1000000) ∨ (1000000 ≤ u ∧ u < 10000000) ∨ (10000000 ≤ u ∧ u < 100000000) ∨ (100000000 ≤ u ∧ u < 1000000000) ∨ (1000000000 ≤ u ∧ u < 10000000000) ∨ (10000000000 ≤ u ∧ u < 100000000000) ∨ (100000000000 ≤ u ∧ u < 1000000000000) ∨ (1000000000000 ≤ u ∧ u < 10000000000000) ∨ (10000000000000 ≤ u ∧ u < 100000000000000) ∨ (100000000000000 ≤ u ∧ u < 1000000000000000) ∨ (1000000000000000 ≤ u ∧ u < 10000000000000000) ∨ (10000000000000000 ≤ u ∧ u < 100000000000000000) ∨ (100000000000000000 ≤ u ∧ u < 1000000000000000000) ∨ (1000000000000000000 ≤ u ∧ u < 10000000000000000000) := by omega
    rcases hc with ⟨a, b⟩ | ⟨a, b⟩ | ⟨a, b⟩ | ⟨a, b⟩ | ⟨a, b⟩ | ⟨a, b⟩ | ⟨a, b⟩ | ⟨a, b⟩ | ⟨a, b⟩ | ⟨a, b⟩ | ⟨a, b⟩ | ⟨a, b⟩ | ⟨a, b⟩ | ⟨a, b⟩ | ⟨a, b⟩ | ⟨a, b⟩ | ⟨a, b⟩ | ⟨a, b⟩ | ⟨a, b⟩
    · exact fmtN1 u (by omega) b a
    · exact fmtN2 u (by omega) b a
    · exact fmtN3 u (by omega) b a
    · exact fmtN4 u (by omega) b a
    · exact fmtN5 u (by omega) b a
    · exact fmtN6 u (by omega) b a
    · exact fmtN7 u (by omega) b a
    · exact fmtN8 u (by omega) b a
    · exact fmtN9 u (by omega) b a
    · exact fmtN10 u (by omega) b a
    · exact fmtN11 u (by omega) b a
    · exact fmtN12 u (by omega) b a
    · exact fmtN13 u (by omega) b a
    · exact fmtN14 u (by omega) b a
    · exact fmtN15 u (by omega) b a
    · exact fmtN16 u (by omega) b a
    · exact fmtN17 u (by omega) b a
    · exact fmtN18 u (by omega) b a
    · exact fmtN19 u (by omega) b a (by omega)
theorem ok78i (n : Int) (h0 : -9223372036854775808 ≤ n) (h1 : n ≤ 9223372036854775807) : Go.Am.Pure Tryz.prog 78 [.d (nI n)] (.d (sD (itS n))) := by
  refine CallOk.of tysOk mixed od78 Tryz.func78 rfl rfl code78 ?_
  exact W.pure (ok94i n h0 h1) rfl rfl (W.ret (RetQ.pure rfl rfl))
theorem ok49i (n : Int) (h0 : -9223372036854775808 ≤ n) (h1 : n ≤ 9223372036854775807) : Go.Am.Pure Tryz.prog 49 [.d (nI n)] (.d (sD (itS n))) := by
  refine CallOk.of tysOk mixed od49 Tryz.func49 rfl rfl code49 ?_
  exact W.pure (ok78i n h0 h1) rfl rfl (W.ret (RetQ.pure rfl rfl))
end Go.Proofs.YtbjjimllnffcpaaGreatDoor.Va
