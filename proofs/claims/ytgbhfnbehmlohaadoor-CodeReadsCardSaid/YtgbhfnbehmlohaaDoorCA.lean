import Derived.Test.YtgbhfnbehmlohaaDoorCP
import Derived.Test.YtgbhfnbehmlohaaDoorE
set_option maxRecDepth 100000
set_option linter.unusedVariables false
set_option linter.unusedSimpArgs false
namespace Go.Proofs.YtgbhfnbehmlohaaDoor.Co
open Go Go.Am
def od10 : Ords := []
theorem code10 : codeB Tryd.f10.ntmps od10 (match Tryd.f10.body with | some c => c | none => .skip) = true := by kernel_rfl
def od16 : Ords := []
theorem code16 : codeB Tryd.f16.ntmps od16 (match Tryd.f16.body with | some c => c | none => .skip) = true := by kernel_rfl
theorem enc300 : enc 300 = [172, 2] := by
  rw [enc_big (by decide), enc_small (by decide)]
  rfl
theorem encm1 : enc (zz (-1)) = [1] := by
  rw [show zz (-1) = 1 from rfl, enc_small (by decide)]
  rfl
theorem encab : encT ⟨#[97, 98]⟩ = [2, 97, 98] := by
  unfold encT
  rw [show (ByteArray.mk #[97, 98]).size = 2 from rfl, enc_small (by decide)]
  rfl
set_option maxHeartbeats 4000000 in
theorem ok10 : Go.Am.Pure Tryd.prog 10 [] (bI true) := by
  refine CallOk.of tysOk mixed od10 Tryd.func10 rfl rfl code10 ?_
  have k1 := ok28 [] 300 (by decide) (by decide)
  rw [enc300] at k1
  have k2 := ok29 [172, 2] (-1) (by decide) (by decide) (by decide)
  rw [encm1] at k2
  have k3 := ok17 [172, 2, 1] ⟨#[97, 98]⟩ (by decide)
  rw [encab] at k3
  refine wr1 (r := [.lit (.int .u64 300)]) (bs := []) rfl k1 (by simp) ?_
  refine wr1 (r := [.lit (.int .i64 (-1))]) (bs := [172, 2]) rfl k2 (by simp) ?_
  refine wr1 (r := [.lit (.string ⟨#[97, 98]⟩)]) (bs := [172, 2, 1]) rfl k3 (by simp) ?_
  refine W.call [] (by decide) (by simp) (by simp) rfl rfl (ok11 ⟨#[128, 0]⟩) ?_
  rintro v σ ⟨rfl, rfl⟩
  have hN : readN ⟨#[128, 0]⟩ 0 none = (0, 1, some (1, 11)) := by decide +kernel
  have k4 := ok12 ⟨#[128, 0]⟩ 0 none (by decide)
  rw [hN] at k4
  refine W.callT [2] k4 (by decide) rfl rfl rfl rfl ?_
  rintro v σ ⟨rfl, rfl⟩
  refine W.callT [0, 1] (ok9 [172, 2, 1, 2, 97, 98]) (by decide) rfl rfl rfl rfl ?_
  rintro v σ ⟨rfl, rfl⟩
  have hs : ((ByteArray.mk #[172, 2, 1, 2, 97, 98]).toList == (ByteArray.mk #[172, 2, 1, 2, 97, 98]).toList) = true := beq_self_eq_true _
  repeat (first | refine W.ite_t rfl ?_ | refine W.ite_f rfl ?_ | refine W.ite_t hs ?_)
  refine W.callT [2] (ok19 ⟨#[128, 0]⟩ 1 (some (1, 11))) (by decide) rfl rfl rfl rfl ?_
  rintro v σ ⟨rfl, rfl⟩
  repeat (first | refine W.ite_t rfl ?_ | refine W.ite_f rfl ?_ | refine W.ite_t hs ?_)
  refine W.pure (Er.okIs codeW 1 11 11) rfl rfl ?_
  repeat (first | refine W.ite_t rfl ?_ | refine W.ite_f rfl ?_ | refine W.ite_t hs ?_)
  refine W.callT [2] (ok18 ⟨#[128, 0]⟩ 1 (some (1, 11))) (by decide) rfl rfl rfl rfl ?_
  rintro v σ ⟨rfl, rfl⟩
  repeat (first | refine W.ite_t rfl ?_ | refine W.ite_f rfl ?_ | refine W.ite_t hs ?_)
  exact W.ret (RetQ.pure rfl rfl)
/-! ### texts that are cut -/
def cut (s : ByteArray) (n : Nat) : ByteArray := if s.size > n then s.extract 0 n else s
theorem cut_size (s : ByteArray) (n : Nat) : (cut s n).size ≤ n := by
  unfold cut
  split
  · simp; omega
  · omega
theorem ok16 (s : ByteArray) (n : Nat) : Go.Am.Pure Tryd.prog 16 [.d (sD s), .d (nI (n : Nat))] (.d (sD (cut s n))) := by
  refine CallOk.of tysOk mixed od16 Tryd.func16 rfl rfl code16 ?_
  unfold cut
  refine W.ite (fun c => ?_) (fun c => ?_)
  · have h : s.size > n := by have := of_decide_eq_true c; omega
    rw [if_pos h]
    refine W.need (by omega) ?_
    exact W.ret (RetQ.pure rfl rfl)
  · have h : ¬ s.size > n := by have := of_decide_eq_false c; omega
    rw [if_neg h]
    exact W.ret (RetQ.pure rfl rfl)
theorem errD_some (x : Nat × Int) : errD (some x) = ftD codeW x.1 x.2 := rfl
theorem toList_mk (l : List UInt8) : (ByteArray.mk l.toArray).toList = l := by rw [ByteArray.toList_eq]
theorem readI_enc {a : Int} (h1 : -9223372036854775808 ≤ a) (h2 : a < 9223372036854775808) : readI ⟨(enc (zz a)).toArray⟩ 0 none = (a, (enc (zz a)).length, none) := by
  unfold readI
  rw [readN_enc (m := zz a) (rest := []) (by simp) (zz_lt h1 h2)]
  simp only [unzz_zz, Nat.zero_add]
theorem size_mk (l : List UInt8) : (ByteArray.mk l.toArray).size = l.length := rfl
end Go.Proofs.YtgbhfnbehmlohaaDoor.Co
