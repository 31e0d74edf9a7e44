import Derived.Test.YtgbhfnbehmlohaaCP
import Derived.Test.YtgbhfnbehmlohaaE
set_option maxRecDepth 100000
set_option linter.unusedVariables false
set_option linter.unusedSimpArgs false
namespace Go.Proofs.Ytgbhfnbehmlohaa.Co
open Go Go.Am
def od10 : Ords := []
theorem code10 : codeB Try.f10.ntmps od10 (match Try.f10.body with | some c => c | none => .skip) = true := by kernel_rfl
def od12 : Ords := []
theorem code12 : codeB Try.f12.ntmps od12 (match Try.f12.body with | some c => c | none => .skip) = true := by kernel_rfl
theorem enc300 : enc 300 = [172, 2] := by
  rw [enc_big (by decide), enc_small (by decide)]
  rfl
theorem encm1 : enc (zz (-1)) = [1] := by
  rw [show zz (-1) = 1 from rfl, enc_small (by decide)]
  rfl
theorem encab : encT ⟨#[97, 98]⟩ = [2, 97, 98] := by
  unfold encT
  rw [show (ByteArray.mk #[97, 98]).size = 2 from rfl, enc_small (by decide)]
  rfl
set_option maxHeartbeats 4000000 in
theorem ok10 : Go.Am.Pure Try.prog 10 [] (bI true) := by
  refine CallOk.of tysOk mixed od10 Try.func10 rfl rfl code10 ?_
  have k1 := ok17 [] 300 (by decide) (by decide)
  rw [enc300] at k1
  have k2 := ok18 [172, 2] (-1) (by decide) (by decide) (by decide)
  rw [encm1] at k2
  have k3 := ok22 [172, 2, 1] ⟨#[97, 98]⟩ (by decide)
  rw [encab] at k3
  refine wr1 (r := [.lit (.int .u64 300)]) (bs := []) rfl k1 (by simp) ?_
  refine wr1 (r := [.lit (.int .i64 (-1))]) (bs := [172, 2]) rfl k2 (by simp) ?_
  refine wr1 (r := [.lit (.string ⟨#[97, 98]⟩)]) (bs := [172, 2, 1]) rfl k3 (by simp) ?_
  refine W.call [] (by decide) (by simp) (by simp) rfl rfl (ok13 ⟨#[128, 0]⟩) ?_
  rintro v σ ⟨rfl, rfl⟩
  have hN : readN ⟨#[128, 0]⟩ 0 none = (0, 1, some (1, 11)) := by decide +kernel
  have k4 := ok14 ⟨#[128, 0]⟩ 0 none (by decide)
  rw [hN] at k4
  refine W.callT [2] k4 (by decide) rfl rfl rfl rfl ?_
  rintro v σ ⟨rfl, rfl⟩
  refine W.callT [0, 1] (ok11 [172, 2, 1, 2, 97, 98]) (by decide) rfl rfl rfl rfl ?_
  rintro v σ ⟨rfl, rfl⟩
  have hs : ((ByteArray.mk #[172, 2, 1, 2, 97, 98]).toList == (ByteArray.mk #[172, 2, 1, 2, 97, 98]).toList) = true := beq_self_eq_true _
  repeat (first | refine W.ite_t rfl ?_ | refine W.ite_f rfl ?_ | refine W.ite_t hs ?_)
  refine W.callT [2] (ok27 ⟨#[128, 0]⟩ 1 (some (1, 11))) (by decide) rfl rfl rfl rfl ?_
  rintro v σ ⟨rfl, rfl⟩
  repeat (first | refine W.ite_t rfl ?_ | refine W.ite_f rfl ?_ | refine W.ite_t hs ?_)
  refine W.pure (Er.okIs codeW 1 11 11) rfl rfl ?_
  repeat (first | refine W.ite_t rfl ?_ | refine W.ite_f rfl ?_ | refine W.ite_t hs ?_)
  refine W.callT [2] (ok16 ⟨#[128, 0]⟩ 1 (some (1, 11))) (by decide) rfl rfl rfl rfl ?_
  rintro v σ ⟨rfl, rfl⟩
  repeat (first | refine W.ite_t rfl ?_ | refine W.ite_f rfl ?_ | refine W.ite_t hs ?_)
  exact W.ret (RetQ.pure rfl rfl)
/-! ### texts that are cut -/
def cut (s : ByteArray) (n : Nat) : ByteArray := if s.size > n then s.extract 0 n else s
theorem cut_size (s : ByteArray) (n : Nat) : (cut s n).size ≤ n := by
  unfold cut
  split
  · simp; omega
  · omega
theorem ok12 (s : ByteArray) (n : Nat) : Go.Am.Pure Try.prog 12 [.d (sD s), .d (nI (n : Nat))] (.d (sD (cut s n))) := by
  refine CallOk.of tysOk mixed od12 Try.func12 rfl rfl code12 ?_
  unfold cut
  refine W.ite (fun c => ?_) (fun c => ?_)
  · have h : s.size > n := by have := of_decide_eq_true c; omega
    rw [if_pos h]
    refine W.need (by omega) ?_
    exact W.ret (RetQ.pure rfl rfl)
  · have h : ¬ s.size > n := by have := of_decide_eq_false c; omega
    rw [if_neg h]
    exact W.ret (RetQ.pure rfl rfl)
theorem errD_some (x : Nat × Int) : errD (some x) = ftD codeW x.1 x.2 := rfl
theorem toList_mk (l : List UInt8) : (ByteArray.mk l.toArray).toList = l := by rw [ByteArray.toList_eq]
def od4 : Ords := []
theorem code4 : codeB Try.f4.ntmps od4 (match Try.f4.body with | some c => c | none => .skip) = true := by kernel_rfl
set_option maxHeartbeats 4000000 in
theorem ok4 (s : ByteArray) : Go.Am.Pure Try.prog 4 [.d (sD s)] (bI true) := by
  refine CallOk.of tysOk mixed od4 Try.func4 rfl rfl code4 ?_
  refine W.pure (ok12 s 40) rfl rfl ?_
  have hsz := cut_size s 40
  generalize cut s 40 = t at hsz
  refine W.call [] (by decide) (by simp) (by simp) rfl rfl (ok13 t) ?_
  rintro v σ ⟨rfl, rfl⟩
  have kN := ok14 t 0 none (by omega)
  have hlt := readN_lt t 0 none
  have hdec : ∀ n a', readN t 0 none = (n, a', none) → ∃ m, n = 0 + m * 128 ^ 0 ∧ t.data.toList.drop 0 = enc m ++ t.data.toList.drop a' ∧ (0 > 0 → m > 0) ∧ a' = 0 + (enc m).length := fun n a' h => num_dec t 10 0 0 0 n a' rfl (by decide) h
  have herr : ∀ n a' x, readN t 0 none = (n, a', some x) → n = 0 := fun n a' x h => readN_err h
  generalize readN t 0 none = N at kN hlt hdec herr
  obtain ⟨n, a, e⟩ := N
  simp only at hlt
  refine W.callT [0] kN (by decide) rfl rfl rfl rfl ?_
  rintro v σ ⟨rfl, rfl⟩
  have kD := ok15 t a e
  cases e with
  | some x =>
    obtain rfl := herr n a x rfl
    rw [show doneE t a (some x) = some x from by unfold doneE failE; split <;> rfl] at kD
    refine W.callT [0] kD (by decide) rfl rfl rfl rfl ?_
    rintro v σ ⟨rfl, rfl⟩
    repeat (first | refine W.ite_t rfl ?_ | refine W.ite_f rfl ?_ | refine W.pure ok10 rfl rfl ?_)
    exact W.ret (RetQ.pure rfl rfl)
  | none =>
    by_cases ha : a < t.size
    · rw [show doneE t a none = some (a, 11) from if_pos ha] at kD
      refine W.callT [0] kD (by decide) rfl rfl rfl rfl ?_
      rintro v σ ⟨rfl, rfl⟩
      refine W.ite_t rfl ?_
      refine W.pure ok10 rfl rfl ?_
      cases hz : ((n : Int) == 0) with
      | true =>
        repeat (first | refine W.ite_t rfl ?_ | refine W.ite_f rfl ?_ | refine W.ite_t hz ?_)
        exact W.ret (RetQ.pure rfl rfl)
      | false =>
        repeat (first | refine W.ite_t rfl ?_ | refine W.ite_f rfl ?_ | refine W.ite_f hz ?_)
        refine W.callT [0] (ok16 t a (some (a, 11))) (by decide) rfl rfl rfl rfl ?_
        rintro v σ ⟨rfl, rfl⟩
        repeat (first | refine W.ite_t rfl ?_ | refine W.ite_f rfl ?_ | refine W.ite_f hz ?_)
        exact W.ret (RetQ.pure rfl (ret_bI (decide_eq_true (by omega))))
    · rw [show doneE t a none = none from if_neg ha] at kD
      refine W.callT [0] kD (by decide) rfl rfl rfl rfl ?_
      rintro v σ ⟨rfl, rfl⟩
      refine W.ite_f rfl ?_
      obtain ⟨m, hn, hd, _, hl⟩ := hdec n a rfl
      have hnm : n = m := by simpa using hn
      subst hnm
      have ht : t.data.toList = enc n := by
        rw [List.drop_zero, List.drop_of_length_le (by simp; omega), List.append_nil] at hd
        exact hd
      have kW := ok17 [] n hlt (by decide)
      rw [List.nil_append, wS_ne (enc_ne n)] at kW
      refine W.callT [1] kW (by decide) rfl rfl rfl rfl ?_
      rintro v σ ⟨rfl, rfl⟩
      repeat (first | refine W.ite_t rfl ?_ | refine W.ite_f rfl ?_ | refine W.pure ok10 rfl rfl ?_)
      have kB := ok11 (enc n)
      rw [wS_ne (enc_ne n)] at kB
      refine W.callT [1, 2] kB (by decide) rfl rfl rfl rfl ?_
      rintro v σ ⟨rfl, rfl⟩
      repeat (first | refine W.ite_t rfl ?_ | refine W.ite_f rfl ?_)
      refine W.ret (RetQ.pure rfl (ret_bI ?_))
      show ((ByteArray.mk (enc n).toArray).toList == t.toList) = true
      rw [toList_mk, ByteArray.toList_eq, ht]
      exact beq_self_eq_true _
theorem readI_enc {a : Int} (h1 : -9223372036854775808 ≤ a) (h2 : a < 9223372036854775808) : readI ⟨(enc (zz a)).toArray⟩ 0 none = (a, (enc (zz a)).length, none) := by
  unfold readI
  rw [readN_enc (m := zz a) (rest := []) (by simp) (zz_lt h1 h2)]
  simp only [unzz_zz, Nat.zero_add]
theorem size_mk (l : List UInt8) : (ByteArray.mk l.toArray).size = l.length := rfl
def od5 : Ords := []
theorem code5 : codeB Try.f5.ntmps od5 (match Try.f5.body with | some c => c | none => .skip) = true := by kernel_rfl
set_option maxHeartbeats 8000000 in
theorem ok5 (a b : Int) (ha1 : -9223372036854775808 ≤ a) (ha2 : a < 9223372036854775808) (hb1 : -9223372036854775808 ≤ b) (hb2 : b < 9223372036854775808) :
    Go.Am.Pure Try.prog 5 [.d (nI a), .d (nI b)] (bI true) := by
  refine CallOk.of tysOk mixed od5 Try.func5 rfl rfl code5 ?_
  have kA := ok18 [] a ha1 ha2 (by decide)
  have kB := ok18 [] b hb1 hb2 (by decide)
  rw [List.nil_append, wS_ne (enc_ne _)] at kA kB
  have lA := enc_len10 (zz_lt ha1 ha2)
  have lB := enc_len10 (zz_lt hb1 hb2)
  have rA := readI_enc ha1 ha2
  have rB := readI_enc hb1 hb2
  have bA := ok11 (enc (zz a))
  have bB := ok11 (enc (zz b))
  rw [wS_ne (enc_ne _)] at bA bB
  have hmono : a ≥ 0 → b ≥ a → (enc (zz a)).length ≤ (enc (zz b)).length := fun h1 h2 => enc_mono (zz b + 1) _ _ (by omega) (zz_mono h1 h2)
  have hinj : enc (zz a) = enc (zz b) → a = b := fun h => zz_inj (enc_inj (zz_lt ha1 ha2) (zz_lt hb1 hb2) h)
  have hcong : a = b → enc (zz a) = enc (zz b) := fun h => by rw [h]
  generalize enc (zz a) = x at *
  generalize enc (zz b) = y at *
  have iA := ok19 ⟨x.toArray⟩ 0 none (by rw [size_mk]; omega)
  have iB := ok19 ⟨y.toArray⟩ 0 none (by rw [size_mk]; omega)
  rw [rA] at iA
  rw [rB] at iB
  have dA := ok15 ⟨x.toArray⟩ x.length none
  have dB := ok15 ⟨y.toArray⟩ y.length none
  rw [show doneE ⟨x.toArray⟩ x.length none = none from if_neg (by rw [size_mk]; omega)] at dA
  rw [show doneE ⟨y.toArray⟩ y.length none = none from if_neg (by rw [size_mk]; omega)] at dB
  have na : (a != a) = false := by simp
  have nb : (b != b) = false := by simp
  refine W.callF [0] [.var [.vec 2 x.length], .var [.d (.lit (.slice none 0 0))], .vec 1 x.length (bc x)] (x2 := .tuple []) kA (by decide) rfl rfl rfl rfl rfl rfl ?_
  refine W.callF [1] [.var [.vec 2 x.length], .var [.vec 3 y.length], .vec 1 x.length (bc x), .vec 1 y.length (bc y)] (x2 := .tuple []) kB (by decide) rfl rfl rfl rfl rfl rfl ?_
  refine W.callF [0, 2] [.var [.vec 2 x.length], .var [.vec 3 y.length], .vec 1 x.length (bc x), .vec 1 y.length (bc y)] (x2 := .d (sD ⟨x.toArray⟩)) bA (by decide) rfl rfl rfl rfl rfl rfl ?_
  refine W.callF [] [.var [.vec 2 x.length], .var [.vec 3 y.length], .vec 1 x.length (bc x), .vec 1 y.length (bc y), .var [.d (sD ⟨x.toArray⟩), .d (nI 0), .d (.lit .nilIface)]] (x2 := .ptr 4 0) (ok13 ⟨x.toArray⟩) (by decide) rfl rfl rfl rfl rfl rfl ?_
  refine W.callF [1, 3] [.var [.vec 2 x.length], .var [.vec 3 y.length], .vec 1 x.length (bc x), .vec 1 y.length (bc y), .var [.d (sD ⟨x.toArray⟩), .d (nI 0), .d (.lit .nilIface)]] (x2 := .d (sD ⟨y.toArray⟩)) bB (by decide) rfl rfl rfl rfl rfl rfl ?_
  refine W.callF [] [.var [.vec 2 x.length], .var [.vec 3 y.length], .vec 1 x.length (bc x), .vec 1 y.length (bc y), .var [.d (sD ⟨x.toArray⟩), .d (nI 0), .d (.lit .nilIface)], .var [.d (sD ⟨y.toArray⟩), .d (nI 0), .d (.lit .nilIface)]] (x2 := .ptr 5 0) (ok13 ⟨y.toArray⟩) (by decide) rfl rfl rfl rfl rfl rfl ?_
  refine W.callF [4] [.var [.vec 2 x.length], .var [.vec 3 y.length], .vec 1 x.length (bc x), .vec 1 y.length (bc y), .var [.d (sD ⟨x.toArray⟩), .d (nI x.length), .d (.lit .nilIface)], .var [.d (sD ⟨y.toArray⟩), .d (nI 0), .d (.lit .nilIface)]] (x2 := .d (nI a)) iA (by decide) rfl rfl rfl rfl rfl rfl ?_
  repeat (first | refine W.ite_f na ?_ | refine W.ite_t rfl ?_ | refine W.ite_f rfl ?_)
  refine W.callF [5] [.var [.vec 2 x.length], .var [.vec 3 y.length], .vec 1 x.length (bc x), .vec 1 y.length (bc y), .var [.d (sD ⟨x.toArray⟩), .d (nI x.length), .d (.lit .nilIface)], .var [.d (sD ⟨y.toArray⟩), .d (nI y.length), .d (.lit .nilIface)]] (x2 := .d (nI b)) iB (by decide) rfl rfl rfl rfl rfl rfl ?_
  repeat (first | refine W.ite_f na ?_ | refine W.ite_f nb ?_ | refine W.ite_t rfl ?_ | refine W.ite_f rfl ?_)
  refine W.callF [4] [.var [.vec 2 x.length], .var [.vec 3 y.length], .vec 1 x.length (bc x), .vec 1 y.length (bc y), .var [.d (sD ⟨x.toArray⟩), .d (nI x.length), .d (.lit .nilIface)], .var [.d (sD ⟨y.toArray⟩), .d (nI y.length), .d (.lit .nilIface)]] (x2 := .d (.lit .nilIface)) dA (by decide) rfl rfl rfl rfl rfl rfl ?_
  repeat (first | refine W.ite_f na ?_ | refine W.ite_f nb ?_ | refine W.ite_t rfl ?_ | refine W.ite_f rfl ?_)
  refine W.callF [5] [.var [.vec 2 x.length], .var [.vec 3 y.length], .vec 1 x.length (bc x), .vec 1 y.length (bc y), .var [.d (sD ⟨x.toArray⟩), .d (nI x.length), .d (.lit .nilIface)], .var [.d (sD ⟨y.toArray⟩), .d (nI y.length), .d (.lit .nilIface)]] (x2 := .d (.lit .nilIface)) dB (by decide) rfl rfl rfl rfl rfl rfl ?_
  repeat (first | refine W.ite_f na ?_ | refine W.ite_f nb ?_ | refine W.ite_t rfl ?_ | refine W.ite_f rfl ?_)
  have he : (((ByteArray.mk x.toArray).toList == (ByteArray.mk y.toArray).toList) == (a == b)) = true := by
    rw [toList_mk, toList_mk, beq_iff_eq, Bool.eq_iff_iff, beq_iff_eq, beq_iff_eq]
    exact ⟨hinj, hcong⟩
  cases h1 : decide (a ≥ 0) with
  | false =>
    repeat (first | refine W.ite_t rfl ?_ | refine W.ite_f rfl ?_ | refine W.ite_t h1 ?_ | refine W.ite_f h1 ?_ | refine W.ite_t h2 ?_ | refine W.ite_f h2 ?_ | refine W.ite_f hl ?_)
    · skip
      refine W.pure ok10 rfl rfl ?_
      repeat (first | refine W.ite_t rfl ?_ | refine W.ite_f rfl ?_)
      refine W.callF [0, 2] [.var [.vec 2 x.length], .var [.vec 3 y.length], .vec 1 x.length (bc x), .vec 1 y.length (bc y), .var [.d (sD ⟨x.toArray⟩), .d (nI x.length), .d (.lit .nilIface)], .var [.d (sD ⟨y.toArray⟩), .d (nI y.length), .d (.lit .nilIface)]] (x2 := .d (sD ⟨x.toArray⟩)) bA (by decide) rfl rfl rfl rfl rfl rfl ?_
      repeat (first | refine W.ite_t rfl ?_ | refine W.ite_f rfl ?_)
      refine W.callF [1, 3] [.var [.vec 2 x.length], .var [.vec 3 y.length], .vec 1 x.length (bc x), .vec 1 y.length (bc y), .var [.d (sD ⟨x.toArray⟩), .d (nI x.length), .d (.lit .nilIface)], .var [.d (sD ⟨y.toArray⟩), .d (nI y.length), .d (.lit .nilIface)]] (x2 := .d (sD ⟨y.toArray⟩)) bB (by decide) rfl rfl rfl rfl rfl rfl ?_
      repeat (first | refine W.ite_t rfl ?_ | refine W.ite_f rfl ?_ | refine W.ite_t he ?_)
      refine W.callF [0, 2] [.var [.vec 2 x.length], .var [.vec 3 y.length], .vec 1 x.length (bc x), .vec 1 y.length (bc y), .var [.d (sD ⟨x.toArray⟩), .d (nI x.length), .d (.lit .nilIface)], .var [.d (sD ⟨y.toArray⟩), .d (nI y.length), .d (.lit .nilIface)]] (x2 := .d (sD ⟨x.toArray⟩)) bA (by decide) rfl rfl rfl rfl rfl rfl ?_
      repeat (first | refine W.ite_t rfl ?_ | refine W.ite_f rfl ?_ | refine W.ite_t he ?_)
      exact W.ret (RetQ.pure rfl (ret_bI (decide_eq_true (by show ((ByteArray.mk x.toArray).size : Int) ≤ 10; rw [size_mk]; omega))))
  | true =>
    cases h2 : decide (b ≥ a) with
    | false =>
      repeat (first | refine W.ite_t rfl ?_ | refine W.ite_f rfl ?_ | refine W.ite_t h1 ?_ | refine W.ite_f h1 ?_ | refine W.ite_t h2 ?_ | refine W.ite_f h2 ?_ | refine W.ite_f hl ?_)
      refine W.pure ok10 rfl rfl ?_
      repeat (first | refine W.ite_t rfl ?_ | refine W.ite_f rfl ?_)
      refine W.callF [0, 2] [.var [.vec 2 x.length], .var [.vec 3 y.length], .vec 1 x.length (bc x), .vec 1 y.length (bc y), .var [.d (sD ⟨x.toArray⟩), .d (nI x.length), .d (.lit .nilIface)], .var [.d (sD ⟨y.toArray⟩), .d (nI y.length), .d (.lit .nilIface)]] (x2 := .d (sD ⟨x.toArray⟩)) bA (by decide) rfl rfl rfl rfl rfl rfl ?_
      repeat (first | refine W.ite_t rfl ?_ | refine W.ite_f rfl ?_)
      refine W.callF [1, 3] [.var [.vec 2 x.length], .var [.vec 3 y.length], .vec 1 x.length (bc x), .vec 1 y.length (bc y), .var [.d (sD ⟨x.toArray⟩), .d (nI x.length), .d (.lit .nilIface)], .var [.d (sD ⟨y.toArray⟩), .d (nI y.length), .d (.lit .nilIface)]] (x2 := .d (sD ⟨y.toArray⟩)) bB (by decide) rfl rfl rfl rfl rfl rfl ?_
      repeat (first | refine W.ite_t rfl ?_ | refine W.ite_f rfl ?_ | refine W.ite_t he ?_)
      refine W.callF [0, 2] [.var [.vec 2 x.length], .var [.vec 3 y.length], .vec 1 x.length (bc x), .vec 1 y.length (bc y), .var [.d (sD ⟨x.toArray⟩), .d (nI x.length), .d (.lit .nilIface)], .var [.d (sD ⟨y.toArray⟩), .d (nI y.length), .d (.lit .nilIface)]] (x2 := .d (sD ⟨x.toArray⟩)) bA (by decide) rfl rfl rfl rfl rfl rfl ?_
      repeat (first | refine W.ite_t rfl ?_ | refine W.ite_f rfl ?_ | refine W.ite_t he ?_)
      exact W.ret (RetQ.pure rfl (ret_bI (decide_eq_true (by show ((ByteArray.mk x.toArray).size : Int) ≤ 10; rw [size_mk]; omega))))
    | true =>
      have hl : decide (((ByteArray.mk x.toArray).size : Int) > ((ByteArray.mk y.toArray).size : Int)) = false := by
        rw [size_mk, size_mk]
        have := hmono (of_decide_eq_true h1) (of_decide_eq_true h2)
        exact decide_eq_false (by omega)
      repeat (first | refine W.ite_t rfl ?_ | refine W.ite_f rfl ?_ | refine W.ite_t h1 ?_ | refine W.ite_f h1 ?_ | refine W.ite_t h2 ?_ | refine W.ite_f h2 ?_ | refine W.ite_f hl ?_)
      refine W.callF [0, 2] [.var [.vec 2 x.length], .var [.vec 3 y.length], .vec 1 x.length (bc x), .vec 1 y.length (bc y), .var [.d (sD ⟨x.toArray⟩), .d (nI x.length), .d (.lit .nilIface)], .var [.d (sD ⟨y.toArray⟩), .d (nI y.length), .d (.lit .nilIface)]] (x2 := .d (sD ⟨x.toArray⟩)) bA (by decide) rfl rfl rfl rfl rfl rfl ?_
      repeat (first | refine W.ite_t rfl ?_ | refine W.ite_f rfl ?_ | refine W.ite_t h1 ?_ | refine W.ite_f h1 ?_ | refine W.ite_t h2 ?_ | refine W.ite_f h2 ?_ | refine W.ite_f hl ?_)
      refine W.callF [1, 3] [.var [.vec 2 x.length], .var [.vec 3 y.length], .vec 1 x.length (bc x), .vec 1 y.length (bc y), .var [.d (sD ⟨x.toArray⟩), .d (nI x.length), .d (.lit .nilIface)], .var [.d (sD ⟨y.toArray⟩), .d (nI y.length), .d (.lit .nilIface)]] (x2 := .d (sD ⟨y.toArray⟩)) bB (by decide) rfl rfl rfl rfl rfl rfl ?_
      repeat (first | refine W.ite_t rfl ?_ | refine W.ite_f rfl ?_ | refine W.ite_t h1 ?_ | refine W.ite_f h1 ?_ | refine W.ite_t h2 ?_ | refine W.ite_f h2 ?_ | refine W.ite_f hl ?_)
      refine W.pure ok10 rfl rfl ?_
      repeat (first | refine W.ite_t rfl ?_ | refine W.ite_f rfl ?_)
      refine W.callF [0, 2] [.var [.vec 2 x.length], .var [.vec 3 y.length], .vec 1 x.length (bc x), .vec 1 y.length (bc y), .var [.d (sD ⟨x.toArray⟩), .d (nI x.length), .d (.lit .nilIface)], .var [.d (sD ⟨y.toArray⟩), .d (nI y.length), .d (.lit .nilIface)]] (x2 := .d (sD ⟨x.toArray⟩)) bA (by decide) rfl rfl rfl rfl rfl rfl ?_
      repeat (first | refine W.ite_t rfl ?_ | refine W.ite_f rfl ?_)
      refine W.callF [1, 3] [.var [.vec 2 x.length], .var [.vec 3 y.length], .vec 1 x.length (bc x), .vec 1 y.length (bc y), .var [.d (sD ⟨x.toArray⟩), .d (nI x.length), .d (.lit .nilIface)], .var [.d (sD ⟨y.toArray⟩), .d (nI y.length), .d (.lit .nilIface)]] (x2 := .d (sD ⟨y.toArray⟩)) bB (by decide) rfl rfl rfl rfl rfl rfl ?_
      repeat (first | refine W.ite_t rfl ?_ | refine W.ite_f rfl ?_ | refine W.ite_t he ?_)
      refine W.callF [0, 2] [.var [.vec 2 x.length], .var [.vec 3 y.length], .vec 1 x.length (bc x), .vec 1 y.length (bc y), .var [.d (sD ⟨x.toArray⟩), .d (nI x.length), .d (.lit .nilIface)], .var [.d (sD ⟨y.toArray⟩), .d (nI y.length), .d (.lit .nilIface)]] (x2 := .d (sD ⟨x.toArray⟩)) bA (by decide) rfl rfl rfl rfl rfl rfl ?_
      repeat (first | refine W.ite_t rfl ?_ | refine W.ite_f rfl ?_ | refine W.ite_t he ?_)
      exact W.ret (RetQ.pure rfl (ret_bI (decide_eq_true (by show ((ByteArray.mk x.toArray).size : Int) ≤ 10; rw [size_mk]; omega))))
end Go.Proofs.Ytgbhfnbehmlohaa.Co
