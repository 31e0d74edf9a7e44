import Derived.Test.YtddhlmejaobcgaaCP
set_option maxRecDepth 100000
set_option linter.unusedVariables false
set_option linter.unusedSimpArgs false
/- Texts that are cut; what was written is read. -/
namespace Go.Proofs.Ytddhlmejaobcgaa.Co
open Go Go.Am
def od14 : Ords := []
theorem code14 : codeB Try.f14.ntmps od14 (match Try.f14.body with | some c => c | none => .skip) = true := by kernel_rfl
def cut (s : ByteArray) (n : Nat) : ByteArray := if s.size > n then s.extract 0 n else s
theorem cut_size (s : ByteArray) (n : Nat) : (cut s n).size ≤ n := by
  unfold cut
  split
  · simp; omega
  · omega
theorem ok14 (s : ByteArray) (n : Nat) : Go.Am.Pure Try.prog 14 [.d (sD s), .d (nI (n : Nat))] (.d (sD (cut s n))) := by
  refine CallOk.of tysOk mixed od14 Try.func14 rfl rfl code14 ?_
  unfold cut
  refine W.ite (fun c => ?_) (fun c => ?_)
  · have h : s.size > n := by have := of_decide_eq_true c; omega
    rw [if_pos h]
    refine W.need (by omega) ?_
    exact W.ret (RetQ.pure rfl rfl)
  · have h : ¬ s.size > n := by have := of_decide_eq_false c; omega
    rw [if_neg h]
    exact W.ret (RetQ.pure rfl rfl)
theorem readI_enc' {s : ByteArray} {a : Nat} {n : Int} {rest : List UInt8} (hd : s.data.toList.drop a = enc (zz n) ++ rest) (h1 : -9223372036854775808 ≤ n) (h2 : n < 9223372036854775808) : readI s a none = (n, a + (enc (zz n)).length, none) := by
  unfold readI
  rw [readN_enc hd (zz_lt h1 h2)]
  simp only [unzz_zz]
theorem readB_enc {s : ByteArray} {a : Nat} {n most : Int} {rest : List UInt8} (hd : s.data.toList.drop a = enc (zz n) ++ rest) (h1 : 0 ≤ n) (h2 : n < 9223372036854775808) (h3 : n < most) : readB s a none most = (n, a + (enc (zz n)).length, none) := by
  unfold readB
  rw [readI_enc' hd (by omega) h2]
  simp only
  rw [if_neg (by omega)]
theorem drop_len {s : ByteArray} {a : Nat} {l rest : List UInt8} (hd : s.data.toList.drop a = l ++ rest) (hl : l ≠ []) : a + l.length ≤ s.size ∧ s.data.toList.drop (a + l.length) = rest := by
  have h1 := congrArg List.length hd
  have h2 : s.data.toList.length = s.size := by simp
  have h3 := List.length_pos_iff.2 hl
  simp only [List.length_drop, List.length_append, h2] at h1
  refine ⟨by omega, ?_⟩
  rw [← List.drop_drop, hd, List.drop_left]
theorem readT_enc {s t : ByteArray} {a : Nat} {most : Int} {rest : List UInt8} (hd : s.data.toList.drop a = encT t ++ rest) (h1 : (t.size : Int) ≤ (if 0 > most then 0 else most)) (h2 : t.size < 18446744073709551616) : readT s a none most = (t, a + (encT t).length, none) := by
  unfold encT at hd ⊢
  rw [List.append_assoc] at hd
  obtain ⟨k1, k2⟩ := drop_len hd (enc_ne _)
  have hl : t.data.toList.length = t.size := by simp
  have hs : s.data.toList.length = s.size := by simp
  have k3 := congrArg List.length k2
  simp only [List.length_drop, List.length_append, hl, hs] at k3
  unfold readT
  rw [readN_enc hd h2]
  simp only
  rw [if_neg (by omega), if_neg (by omega)]
  have he : s.extract (a + (enc t.size).length) (a + (enc t.size).length + t.size) = t := by
    apply ByteArray.ext
    apply Array.toList_inj.1
    rw [ByteArray.data_extract, Array.toList_extract, List.extract_eq_take_drop, k2, show a + (enc t.size).length + t.size - (a + (enc t.size).length) = t.data.toList.length from by omega, List.take_left]
  rw [he]
  simp only [List.length_append, hl, Prod.mk.injEq, and_true, true_and]
  omega
theorem readT_big {s t : ByteArray} {a : Nat} {most : Int} {rest : List UInt8} (hd : s.data.toList.drop a = encT t ++ rest) (h1 : ¬ (t.size : Int) ≤ (if 0 > most then 0 else most)) (h2 : t.size < 18446744073709551616) : readT s a none most = (⟨#[]⟩, a, some (a, 1)) := by
  unfold encT at hd
  rw [List.append_assoc] at hd
  unfold readT
  rw [readN_enc hd h2]
  simp only
  rw [if_pos (by omega)]
end Go.Proofs.Ytddhlmejaobcgaa.Co
