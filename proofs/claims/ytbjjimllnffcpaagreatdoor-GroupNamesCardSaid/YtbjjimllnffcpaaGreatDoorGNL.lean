import Derived.Test.YtbjjimllnffcpaaGreatDoorRQn
import Derived.Test.YtbjjimllnffcpaaGreatDoorE
set_option maxRecDepth 100000
set_option linter.unusedVariables false
set_option linter.unusedSimpArgs false
/- The statement GroupNames. -/
namespace Go.Proofs.YtbjjimllnffcpaaGreatDoor.Gr
open Go Go.Am Va
def od4 : Ords := [(4, [1000, 1, 2, 3, 5, 6, 4, 1007, 8, 9, 10, 11, 13, 1012, 1014, 15, 16, 17, 18, 19, 20, 21, 22, 23, 24, 25, 26, 27, 28, 29, 30, 31, 32, 33, 34, 35, 36, 37, 1038, 39, 40, 41])]
theorem code4 : codeB Tryz.f4.ntmps od4 (match Tryz.f4.body with | some c => c | none => .skip) = true := by kernel_rfl
abbrev I64 := {n : Int // i64 n}
set_option maxHeartbeats 8000000 in
theorem ok4 (a0 : ByteArray) (l0 i0 : I64) (s0 : ByteArray) (n : Int) : Go.Am.Pure Tryz.prog 4 [.d (sD a0), Dy.iv l0.1 i0.1, .d (sD s0), .d (nI n)] (bI true) := by
  refine CallOk.of tysOk mixed od4 Tryz.func4 rfl rfl code4 ?_
  have ha := cutN_le a0 20
  have hs := cutN_le s0 60
  have kN1 := ok20i (cutN a0 20) l0.1 i0.1 (by omega) l0.2 i0.2
  have kN2 := ok21i (cutN a0 20) l0.1 i0.1 (by omega) l0.2 i0.2
  have kK1 := ok22 (cutN s0 60) (by omega)
  have kK2 := ok23 (cutN s0 60) (by omega)
  refine W.pure (ok17 a0 20) rfl rfl ?_
  refine W.pure (ok17 s0 60) rfl rfl ?_
  generalize cutN a0 20 = a at *
  generalize cutN s0 60 = s at *
  have kR2 := ok19 s (by omega) n
  have c1 : ((nameI a l0.1 i0.1).toList == (nameI a l0.1 i0.1).toList) = true := beq_self_eq_true _
  have c2 : (hashI (groupS ++ s) == hashI (groupS ++ s)) = true := beq_self_eq_true _
  by_cases hr : ∃ a l i, RdOk s n a l i
  · obtain ⟨b, l, i, hr⟩ := hr
    have kR1 := ok18s s b l i n hr
    rw [rdV_some hr] at kR2
    have c3 : (b.toList == b.toList) = true := beq_self_eq_true _
    have c4 : (((l : Int) == (l : Int)) && (((i : Int) == (i : Int)) && true)) = true := by simp
    refine W.pure kR1 rfl rfl ?_
    refine W.pure kR2 rfl rfl ?_
    refine W.pure ok14 rfl rfl ?_
    repeat (first | refine W.ite_t rfl ?_ | refine W.ite_f rfl ?_)
    refine W.pure kN1 rfl rfl ?_
    repeat (first | refine W.ite_t rfl ?_ | refine W.ite_f rfl ?_)
    refine W.pure kN2 rfl rfl ?_
    repeat (first | refine W.ite_t c1 ?_ | refine W.ite_t rfl ?_ | refine W.ite_f rfl ?_)
    refine W.pure kK1 rfl rfl ?_
    repeat (first | refine W.ite_t c1 ?_ | refine W.ite_t rfl ?_ | refine W.ite_f rfl ?_)
    refine W.pure kK2 rfl rfl ?_
    repeat (first | refine W.ite_t c1 ?_ | refine W.ite_t c2 ?_ | refine W.ite_t c3 ?_ | refine W.ite_t c4 ?_ | refine W.ite_t rfl ?_ | refine W.ite_f rfl ?_)
    exact W.ret (RetQ.pure rfl rfl)
  · have hno : ∀ a l i, ¬ RdOk s n a l i := fun a l i h => hr ⟨a, l, i, h⟩
    have kR1 := ok18n s (by omega) n hno
    rw [rdV_none hno] at kR2
    have kI : Go.Am.Pure Tryz.prog 24 [.d (gfaultE 11), .d (Er.cdD 11)] (bI true) := Er.okIs _ 0 11 11
    refine W.pure kR1 rfl rfl ?_
    refine W.pure kR2 rfl rfl ?_
    refine W.pure ok14 rfl rfl ?_
    repeat (first | refine W.ite_t rfl ?_ | refine W.ite_f rfl ?_)
    refine W.pure kN1 rfl rfl ?_
    repeat (first | refine W.ite_t rfl ?_ | refine W.ite_f rfl ?_)
    refine W.pure kN2 rfl rfl ?_
    repeat (first | refine W.ite_t c1 ?_ | refine W.ite_t rfl ?_ | refine W.ite_f rfl ?_)
    refine W.pure kK1 rfl rfl ?_
    repeat (first | refine W.ite_t c1 ?_ | refine W.ite_t rfl ?_ | refine W.ite_f rfl ?_)
    refine W.pure kK2 rfl rfl ?_
    have c6 : ((txt []).toList == (txt []).toList) = true := beq_self_eq_true _
    repeat (first | refine W.ite_t c1 ?_ | refine W.ite_t c2 ?_ | refine W.ite_t c6 ?_ | refine W.ite_t rfl ?_ | refine W.ite_f rfl ?_)
    refine W.pure kI rfl rfl ?_
    repeat (first | refine W.ite_t rfl ?_ | refine W.ite_f rfl ?_)
    exact W.ret (RetQ.pure rfl rfl)
end Go.Proofs.YtbjjimllnffcpaaGreatDoor.Gr
