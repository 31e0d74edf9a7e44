import Derived.Test.YtbjjimllnffcpaaGreatDoorGI
import Derived.Test.YtbjjimllnffcpaaGreatDoorAm23
set_option maxRecDepth 100000
set_option linter.unusedVariables false
set_option linter.unusedSimpArgs false
/- strconv.Itoa, up to three digits. -/
namespace Go.Proofs.YtbjjimllnffcpaaGreatDoor.Va
open Go Go.Am
set_option maxHeartbeats 2000000 in
theorem ok94 (n : Nat) (h : n < 1000) : Go.Am.Pure Tryz.prog 94 [.d (nI n), .d (nI 10)] (.d (sD (numS n))) := by
  refine CallOk.of tysOk mixed od94 Tryz.func94 rfl rfl code94 ?_
  have g0 : decide ((0 : Int) ≤ n) = true := decide_eq_true (by omega)
  by_cases hn : n < 100
  · have g1 : decide ((n : Int) < 100) = true := decide_eq_true (by omega)
    repeat (first | refine W.ite_t rfl ?_ | refine W.ite_f rfl ?_ | refine W.ite_t g0 ?_ | refine W.ite_t g1 ?_)
    refine W.pure (ok103 n hn) rfl rfl ?_
    exact W.ret (RetQ.pure rfl rfl)
  · have g1 : decide ((n : Int) < 100) = false := decide_eq_false (by omega)
    have g2 : decide ((n : Int) < 0) = false := decide_eq_false (by omega)
    have hn : 100 ≤ n := by omega
    repeat (first | refine W.ite_t rfl ?_ | refine W.ite_f rfl ?_ | refine W.ite_t g0 ?_ | refine W.ite_f g1 ?_ | refine W.ite_f g2 ?_)
    rw [u64n n h]
    refine W.pure (ok104 n hn h) rfl rfl ?_
    refine W.need (by decide) (W.need (by decide) ?_)
    refine W.callT [0] (ok105 n hn h) (by decide) rfl rfl rfl rfl ?_
    rintro v σ ⟨rfl, rfl⟩
    repeat (first | refine W.ite_t rfl ?_ | refine W.ite_f rfl ?_ | refine W.ite_t g0 ?_ | refine W.ite_f g1 ?_ | refine W.ite_f g2 ?_)
    refine W.need (by decide) (W.need (by decide) ?_)
    have hb : ∀ c ∈ [D.lit (.int .u8 (48 + n / 100 : Nat)), D.lit (.int .u8 (48 + n / 10 % 10 : Nat)), D.lit (.int .u8 (48 + n % 10 : Nat))], isByte c := by
      intro c hc
      simp only [List.mem_cons, List.mem_nil_iff, or_false] at hc
      rcases hc with rfl | rfl | rfl
      · exact ⟨rfl, by simp only [D.toI]; omega, by simp only [D.toI]; omega⟩
      · exact ⟨rfl, by simp only [D.toI]; omega, by simp only [D.toI]; omega⟩
      · exact ⟨rfl, by simp only [D.toI]; omega, by simp only [D.toI]; omega⟩
    refine W.need ⟨rfl, hb⟩ ?_
    refine W.ret (RetQ.pure rfl (ret_sD ?_))
    unfold numS
    rw [if_neg (by omega), if_neg (by omega)]
    rfl
theorem ok78 (n : Nat) (h : n < 1000) : Go.Am.Pure Tryz.prog 78 [.d (nI n)] (.d (sD (numS n))) := by
  refine CallOk.of tysOk mixed od78 Tryz.func78 rfl rfl code78 ?_
  exact W.pure (ok94 n h) rfl rfl (W.ret (RetQ.pure rfl rfl))
theorem ok49 (n : Nat) (h : n < 1000) : Go.Am.Pure Tryz.prog 49 [.d (nI n)] (.d (sD (numS n))) := by
  refine CallOk.of tysOk mixed od49 Tryz.func49 rfl rfl code49 ?_
  exact W.pure (ok78 n h) rfl rfl (W.ret (RetQ.pure rfl rfl))
end Go.Proofs.YtbjjimllnffcpaaGreatDoor.Va
