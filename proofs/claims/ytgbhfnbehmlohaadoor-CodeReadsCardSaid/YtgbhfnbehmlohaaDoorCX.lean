import Derived.Test.YtgbhfnbehmlohaaDoorCT
import Derived.Test.YtgbhfnbehmlohaaDoorA
set_option maxRecDepth 100000
set_option linter.unusedVariables false
set_option linter.unusedSimpArgs false
namespace Go.Proofs.YtgbhfnbehmlohaaDoor.Co
open Go Go.Am
def od4 : Ords := []
theorem code4 : codeB Tryd.f4.ntmps od4 (match Tryd.f4.body with | some c => c | none => .skip) = true := by kernel_rfl
set_option maxHeartbeats 4000000 in
theorem ok4 (s : ByteArray) (most : Int) (hm : most < 9223372036854775808) : Go.Am.Pure Tryd.prog 4 [.d (sD s), .d (nI most)] (bI true) := by
  refine CallOk.of tysOk mixed od4 Tryd.func4 rfl rfl code4 ?_
  refine W.pure (ok16 s 200) rfl rfl ?_
  have hsz := cut_size s 200
  generalize cut s 200 = t at hsz
  have kW := ok17 [] t (by simp; omega)
  rw [List.nil_append] at kW
  have hne : encT t ≠ [] := by have := enc_ne t.size; unfold encT; simp_all
  have kB := ok9 (encT t)
  rw [wS_ne hne] at kW kB
  have htl : (encT t).length ≤ 210 := by
    unfold encT
    have := enc_len10 (n := t.size) (by omega)
    have : t.data.toList.length = t.size := by simp
    simp only [List.length_append]; omega
  have hd : (ByteArray.mk (encT t).toArray).data.toList.drop 0 = encT t ++ [] := by simp
  have kT := ok13 ⟨(encT t).toArray⟩ 0 none most hm (by omega) (by rw [size_mk]; omega)
  have hE := fun h => readT_enc (most := most) hd h (by omega)
  have hG := fun h => readT_big (most := most) hd h (by omega)
  generalize encT t = x at *
  refine W.callF [0] [.var [.vec 1 x.length], .vec 1 x.length (bc x)] (x2 := .tuple []) kW (by decide) rfl rfl rfl rfl rfl rfl ?_
  refine W.callF [0, 1] [.var [.vec 1 x.length], .vec 1 x.length (bc x)] (x2 := .d (sD ⟨x.toArray⟩)) kB (by decide) rfl rfl rfl rfl rfl rfl ?_
  refine W.callF [] [.var [.vec 1 x.length], .vec 1 x.length (bc x), .var [.d (sD ⟨x.toArray⟩), .d (nI 0), .d (.lit .nilIface)]] (x2 := .ptr 2 0) (ok11 ⟨x.toArray⟩) (by decide) rfl rfl rfl rfl rfl rfl ?_
  by_cases hc : (t.size : Int) ≤ (if 0 > most then 0 else most)
  · rw [hE hc] at kT
    refine W.callF [2] [.var [.vec 1 x.length], .vec 1 x.length (bc x), .var [.d (sD ⟨x.toArray⟩), .d (nI (0 + x.length : Nat)), .d (.lit .nilIface)]] (x2 := .d (sD t)) kT (by decide) rfl rfl rfl rfl rfl rfl ?_
    refine W.ite_t (decide_eq_true hc) ?_
    refine W.pure ok10 rfl rfl ?_
    have he : (t.toList == t.toList) = true := beq_self_eq_true _
    repeat (first | refine W.ite_t rfl ?_ | refine W.ite_f rfl ?_ | refine W.ite_t he ?_)
    have kD := ok15 ⟨x.toArray⟩ (0 + x.length) none
    rw [show doneE ⟨x.toArray⟩ (0 + x.length) none = none from if_neg (by rw [size_mk]; omega)] at kD
    refine W.callF [2] [.var [.vec 1 x.length], .vec 1 x.length (bc x), .var [.d (sD ⟨x.toArray⟩), .d (nI (0 + x.length : Nat)), .d (.lit .nilIface)]] (x2 := .d (.lit .nilIface)) kD (by decide) rfl rfl rfl rfl rfl rfl ?_
    repeat (first | refine W.ite_t rfl ?_ | refine W.ite_f rfl ?_ | refine W.ite_t he ?_)
    refine W.callF [2] [.var [.vec 1 x.length], .vec 1 x.length (bc x), .var [.d (sD ⟨x.toArray⟩), .d (nI (0 + x.length : Nat)), .d (.lit .nilIface)]] (x2 := .d (nI (0 + x.length : Nat))) (ok18 ⟨x.toArray⟩ (0 + x.length) none) (by decide) rfl rfl rfl rfl rfl rfl ?_
    repeat (first | refine W.ite_t rfl ?_ | refine W.ite_f rfl ?_ | refine W.ite_t he ?_)
    refine W.callF [0, 1] [.var [.vec 1 x.length], .vec 1 x.length (bc x), .var [.d (sD ⟨x.toArray⟩), .d (nI (0 + x.length : Nat)), .d (.lit .nilIface)]] (x2 := .d (sD ⟨x.toArray⟩)) kB (by decide) rfl rfl rfl rfl rfl rfl ?_
    repeat (first | refine W.ite_t rfl ?_ | refine W.ite_f rfl ?_ | refine W.ite_t he ?_)
    refine W.ret (RetQ.pure rfl (ret_bI ?_))
    show (((0 + x.length : Nat) : Int) == (((ByteArray.mk x.toArray).size : Nat) : Int)) = true
    rw [size_mk, Nat.zero_add]
    exact beq_self_eq_true _
  · rw [hG hc] at kT
    refine W.callF [2] [.var [.vec 1 x.length], .vec 1 x.length (bc x), .var [.d (sD ⟨x.toArray⟩), .d (nI 0), .d (ftD codeW 0 1)]] (x2 := .d (sD ⟨#[]⟩)) kT (by decide) rfl rfl rfl rfl rfl rfl ?_
    refine W.ite_f (decide_eq_false hc) ?_
    refine W.pure ok10 rfl rfl ?_
    have he : ((ByteArray.mk #[]).toList == (ByteArray.mk #[]).toList) = true := beq_self_eq_true _
    repeat (first | refine W.ite_t rfl ?_ | refine W.ite_f rfl ?_ | refine W.ite_t he ?_)
    refine W.callF [2] [.var [.vec 1 x.length], .vec 1 x.length (bc x), .var [.d (sD ⟨x.toArray⟩), .d (nI 0), .d (ftD codeW 0 1)]] (x2 := .d (nI 0)) (ok18 ⟨x.toArray⟩ 0 (some (0, 1))) (by decide) rfl rfl rfl rfl rfl rfl ?_
    repeat (first | refine W.ite_t rfl ?_ | refine W.ite_f rfl ?_ | refine W.ite_t he ?_)
    refine W.callF [2] [.var [.vec 1 x.length], .vec 1 x.length (bc x), .var [.d (sD ⟨x.toArray⟩), .d (nI 0), .d (ftD codeW 0 1)]] (x2 := .d (ftD codeW 0 1)) (ok19 ⟨x.toArray⟩ 0 (some (0, 1))) (by decide) rfl rfl rfl rfl rfl rfl ?_
    repeat (first | refine W.ite_t rfl ?_ | refine W.ite_f rfl ?_ | refine W.ite_t he ?_)
    refine W.pure (As.okOf codeW 0 1) rfl rfl ?_
    repeat (first | refine W.ite_t rfl ?_ | refine W.ite_f rfl ?_ | refine W.ite_t he ?_)
    exact W.ret (RetQ.pure rfl rfl)
end Go.Proofs.YtgbhfnbehmlohaaDoor.Co
