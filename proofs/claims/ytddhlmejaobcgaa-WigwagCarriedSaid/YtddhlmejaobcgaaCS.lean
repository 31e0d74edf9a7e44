import Derived.Test.YtddhlmejaobcgaaCR
set_option maxRecDepth 100000
set_option linter.unusedVariables false
set_option linter.unusedSimpArgs false
namespace Go.Proofs.Ytddhlmejaobcgaa.Co
open Go Go.Am
def od59 : Ords := []
theorem code59 : codeB Try.f59.ntmps od59 (match Try.f59.body with | some c => c | none => .skip) = true := by kernel_rfl
def od60 : Ords := [(6, [0, 1, 2, 3, 4, 5, 6, 7, 8, 9, 10, 11, 12, 13, 14, 15, 16, 17, 18, 19]), (11, [0, 1, 2, 3, 4, 5, 6, 7, 8, 9, 10, 11, 12, 13, 14, 15, 16])]
theorem code60 : codeB Try.f60.ntmps od60 (match Try.f60.body with | some c => c | none => .skip) = true := by kernel_rfl
def od22 : Ords := [(1, [0, 1, 2, 3, 4, 5, 6, 7, 8, 9])]
theorem code22 : codeB Try.f22.ntmps od22 (match Try.f22.body with | some c => c | none => .skip) = true := by kernel_rfl
theorem num_lt (s : ByteArray) : ∀ (f i a acc : Nat), f + i = 10 → acc < 128 ^ i → (num s f i a acc).1 < 18446744073709551616
  | 0, i, a, acc, hf, ha => by rw [num]; exact (by decide : 0 < 18446744073709551616)
  | f + 1, i, a, acc, hf, ha => by
    rw [num]
    split
    · exact (by decide : 0 < 18446744073709551616)
    · split
      · exact (by decide : 0 < 18446744073709551616)
      · rename_i h1 h2
        have h := accP (x := byteAt s a % 128) ha (by omega) (by omega) (by omega)
        split
        · exact h.2
        · exact num_lt s f (i + 1) (a + 1) _ (by omega) (accNext ha)
theorem num_le (s : ByteArray) : ∀ (f i a acc : Nat), a ≤ s.size → (num s f i a acc).2.1 ≤ s.size
  | 0, i, a, acc, ha => by rw [num]; exact ha
  | f + 1, i, a, acc, ha => by
    rw [num]
    split
    · exact ha
    · split
      · exact ha
      · split
        · show a + 1 ≤ _; omega
        · exact num_le s f (i + 1) (a + 1) _ (by omega)
theorem readN_lt (s : ByteArray) (a : Nat) (e : Err) : (readN s a e).1 < 18446744073709551616 := by
  cases e with
  | none => exact num_lt s 10 0 a 0 rfl (by decide)
  | some e => exact (by decide : 0 < 18446744073709551616)
theorem readN_le (s : ByteArray) (a : Nat) (e : Err) (h : a ≤ s.size) : (readN s a e).2.1 ≤ s.size := by
  cases e with
  | none => exact num_le s 10 0 a 0 h
  | some e => exact h
/-- A number as an int. -/
def unzz (n : Nat) : Int := if n % 2 = 0 then ((n / 2 : Nat) : Int) else -((n / 2 : Nat) : Int) - 1
theorem unzz_zz (a : Int) : unzz (zz a) = a := by
  unfold unzz zz
  split <;> split <;> omega
theorem wrapI {n : Int} (h1 : 9223372036854775808 ≤ n) (h2 : n < 18446744073709551616) : IntKind.i64.wrap n = n - 18446744073709551616 := by
  rw [show IntKind.i64.wrap n = (if (true && decide (n % (2 ^ 64 : Int) ≥ (2 ^ 63 : Int))) = true then n % (2 ^ 64 : Int) - (2 ^ 64 : Int) else n % (2 ^ 64 : Int)) from rfl]
  have e1 : (2 : Int) ^ 64 = 18446744073709551616 := by decide
  have e2 : (2 : Int) ^ 63 = 9223372036854775808 := by decide
  rw [e1, e2, if_pos (by simp; omega)]
  omega
theorem zzI {n : Nat} (h : n < 18446744073709551616) :
    IntKind.i64.wrap ((BitVec.ofInt IntKind.i64.bits (IntKind.i64.wrap ((n : Int).fdiv (2 ^ min (1 : Int).toNat IntKind.u64.bits))) ^^^ BitVec.ofInt IntKind.i64.bits (IntKind.i64.wrap (0 - IntKind.i64.wrap (IntKind.u64.wrap ((BitVec.ofInt IntKind.u64.bits (n : Int) &&& BitVec.ofInt IntKind.u64.bits 1).toNat : Nat))))).toNat : Nat) = unzz n := by
  rw [bits64', show IntKind.i64.bits = 64 from rfl, show min (1 : Int).toNat 64 = 1 from rfl, Int.fdiv_eq_ediv_of_nonneg _ (by decide), show ((2 : Int) ^ 1) = 2 from rfl]
  have e0 : (BitVec.ofInt 64 (n : Int) &&& BitVec.ofInt 64 1).toNat = n % 2 := by
    rw [BitVec.toNat_and, ofIn h, show (BitVec.ofInt 64 1).toNat = 1 from rfl, Nat.and_one_is_mod]
  have e1 : IntKind.i64.wrap ((n : Int) / 2) = ((n / 2 : Nat) : Int) := by rw [wrap64 (by omega) (by omega)]; omega
  rw [e0, e1, wrapNat (n := n % 2) (by omega), wrap64 (n := ((n % 2 : Nat) : Int)) (by omega) (by omega)]
  unfold unzz
  by_cases h2 : n % 2 = 0
  · rw [if_pos h2, h2, show IntKind.i64.wrap (0 - ((0 : Nat) : Int)) = 0 from by decide, ofI0, BitVec.xor_zero, ofIn (by omega), wrap64 (by omega) (by omega)]
  · have h3 : n % 2 = 1 := by omega
    rw [if_neg h2, h3, show IntKind.i64.wrap (0 - ((1 : Nat) : Int)) = -1 from by decide, show BitVec.ofInt 64 (-1) = BitVec.allOnes 64 from rfl, BitVec.xor_allOnes, BitVec.toNat_not, ofIn (by omega), wrapI (by omega) (by omega)]
    omega
def readI (s : ByteArray) (a : Nat) (e : Err) : Int × Nat × Err := (unzz (readN s a e).1, (readN s a e).2)
theorem unzz_range {n : Nat} (h : n < 18446744073709551616) : -9223372036854775808 ≤ unzz n ∧ unzz n < 9223372036854775808 := by
  unfold unzz
  split <;> omega
/-- A call on a reader that is all there is. -/
theorem rd1 {f : FuncId} {r : List D} {s s' : ByteArray} {a a' : Nat} {e e' : Err} {x : AV} {k : AV → Store → Res} {Q : AExit → Fr → Store → Prop} (hx : x.closed = true)
    (h : CallOk Try.prog f (.ptr 0 0 :: r.map .d) (rS s a e) (fun v σ => v = x ∧ σ = rS s' a' e')) (hk : W Try.prog (k x (rS s' a' e')) Q) : W Try.prog (.call f (.ptr 0 0 :: r.map .d) (rS s a e) [] k) Q := by
  have hr : ∀ (σ : Store) (ρ : Nat → Option Nat), AV.subL σ ρ (r.map .d) = r.map .d := fun σ ρ => by
    clear h hk
    induction r with
    | nil => rfl
    | cons a r ih =>
      simp only [List.map_cons, AV.subL, AV.sub]
      rw [ih]
  refine W.call [0] (by decide) in0 (by simp) (args' := .ptr 0 0 :: r.map .d) (σ' := rS s a e) ?_ rfl h ?_
  · show _ :: AV.subL _ _ (r.map .d) = _
    rw [hr]; rfl
  · rintro v σ ⟨rfl, rfl⟩
    rw [closed_sub hx]
    exact hk
theorem ok59 (s : ByteArray) (a : Nat) (e : Err) (hs : s.size ≤ 9223372036854775807) :
    CallOk Try.prog 59 [.ptr 0 0] (rS s a e) (fun v σ => v = .d (nI (readI s a e).1) ∧ σ = rS s (readI s a e).2.1 (readI s a e).2.2) := by
  refine CallOk.of tysOk mixed od59 Try.func59 rfl rfl code59 ?_
  refine rd1 (r := []) rfl (ok21 s a e hs) ?_
  refine W.need (by decide) ?_
  refine W.ret (RetQ.all ⟨?_, rfl⟩)
  exact congrArg (fun x => AV.d (.lit (.int .i64 x))) (zzI (readN_lt s a e))
def doneE (s : ByteArray) (a : Nat) (e : Err) : Err := if a < s.size then failE a 11 e else e
theorem ok22 (s : ByteArray) (a : Nat) (e : Err) : CallOk Try.prog 22 [.ptr 0 0] (rS s a e) (fun v σ => v = .d (errD (doneE s a e)) ∧ σ = rS s a (doneE s a e)) := by
  refine CallOk.of tysOk mixed od22 Try.func22 rfl rfl code22 ?_
  refine W.ite (fun c => ?_) (fun c => ?_)
  · have h : a < s.size := by have := of_decide_eq_true c; omega
    refine rd1 (r := [nI 11]) rfl (ok43 s a e 11) ?_
    rw [show doneE s a e = failE a 11 e from if_pos h]
    cases e <;> exact W.ret (RetQ.all ⟨rfl, rfl⟩)
  · have h : ¬ a < s.size := by have := of_decide_eq_false c; omega
    rw [show doneE s a e = e from if_neg h]
    cases e <;> exact W.ret (RetQ.all ⟨rfl, rfl⟩)
def readB (s : ByteArray) (a : Nat) (e : Err) (most : Int) : Int × Nat × Err :=
  match readI s a e with
  | (_, a', some x) => (0, a', some x)
  | (n, a', none) => if n < 0 ∨ n ≥ most then (0, a, some (a, 1)) else (n, a', none)
def readT (s : ByteArray) (a : Nat) (e : Err) (most : Int) : ByteArray × Nat × Err :=
  match readN s a e with
  | (_, a', some x) => (⟨#[]⟩, a', some x)
  | (n, a', none) =>
    if (n : Int) > (if 0 > most then 0 else most) then (⟨#[]⟩, a, some (a, 1))
    else if n > s.size - a' then (⟨#[]⟩, a', some (a', 10))
    else (s.extract a' (a' + n), a' + n, none)
set_option maxHeartbeats 4000000 in
theorem ok60 (s : ByteArray) (a : Nat) (e : Err) (most : Int) (hm : most < 9223372036854775808) (ha : a ≤ s.size) (hs : s.size ≤ 4611686018427387904) :
    CallOk Try.prog 60 [.ptr 0 0, .d (nI most)] (rS s a e) (fun v σ => v = .d (sD (readT s a e most).1) ∧ σ = rS s (readT s a e most).2.1 (readT s a e most).2.2) := by
  refine CallOk.of tysOk mixed od60 Try.func60 rfl rfl code60 ?_
  have k := ok21 s a e (by omega)
  have hlt := readN_lt s a e
  have hle := readN_le s a e ha
  unfold readT
  generalize readN s a e = N at k hlt hle ⊢
  obtain ⟨n, a', e'⟩ := N
  simp only at hlt hle
  refine rd1 (r := []) rfl k ?_
  cases e' with
  | some x =>
    repeat (first | refine W.ite_t rfl ?_ | refine W.ite_f rfl ?_)
    exact W.ret (RetQ.all ⟨rfl, rfl⟩)
  | none =>
    repeat (first | refine W.ite_t rfl ?_ | refine W.ite_f rfl ?_)
    have hmx : IntKind.u64.wrap (if 0 > most then 0 else most) = (if 0 > most then 0 else most) := by
      split <;> exact wrapU (by omega) (by omega)
    have hsub : IntKind.u64.wrap (IntKind.i64.wrap ((s.size : Int) - (a' : Int))) = ((s.size - a' : Nat) : Int) := by
      rw [wrap64 (by omega) (by omega), wrapU (by omega) (by omega)]; omega
    cases h0 : decide ((n : Int) > IntKind.u64.wrap (if 0 > most then 0 else most)) with
    | true =>
      have p0 := of_decide_eq_true h0
      rw [hmx] at p0
      repeat (first | refine W.ite_t rfl ?_ | refine W.ite_f rfl ?_ | refine W.ite_t h0 ?_)
      refine rd1 (r := [nI 1]) (s := s) (a := a) (e := none) rfl (ok43 s a none 1) ?_
      repeat (first | refine W.ite_t rfl ?_ | refine W.ite_f rfl ?_)
      refine W.ret (RetQ.all ?_)
      dsimp only
      rw [if_pos p0]
      exact ⟨rfl, rfl⟩
    | false =>
      have p0 := of_decide_eq_false h0
      rw [hmx] at p0
      repeat (first | refine W.ite_t rfl ?_ | refine W.ite_f rfl ?_ | refine W.ite_f h0 ?_)
      cases h1 : decide ((n : Int) > IntKind.u64.wrap (IntKind.i64.wrap ((s.size : Int) - (a' : Int)))) with
      | true =>
        have p1 := of_decide_eq_true h1
        rw [hsub] at p1
        repeat (first | refine W.ite_t rfl ?_ | refine W.ite_f rfl ?_ | refine W.ite_t h1 ?_)
        refine rd1 (r := [nI 10]) (s := s) (a := a') (e := none) rfl (ok43 s a' none 10) ?_
        repeat (first | refine W.ite_t rfl ?_ | refine W.ite_f rfl ?_)
        refine W.ret (RetQ.all ?_)
        dsimp only
        rw [if_neg p0, if_pos (show n > s.size - a' by omega)]
        exact ⟨rfl, rfl⟩
      | false =>
        have p1 := of_decide_eq_false h1
        rw [hsub] at p1
        repeat (first | refine W.ite_t rfl ?_ | refine W.ite_f rfl ?_ | refine W.ite_f h1 ?_)
        have w0 : IntKind.i64.wrap (n : Int) = (n : Int) := wrap64 (by omega) (by omega)
        have w1 : IntKind.i64.wrap ((a' : Int) + IntKind.i64.wrap (n : Int)) = ((a' + n : Nat) : Int) := by rw [w0, wrap64 (by omega) (by omega)]; omega
        have w2 : IntKind.i64.wrap (IntKind.i64.wrap ((a' : Int) + IntKind.i64.wrap (n : Int)) - IntKind.i64.wrap (n : Int)) = ((a' : Nat) : Int) := by rw [w1, w0, wrap64 (by omega) (by omega)]; omega
        refine W.need (by rw [w1]; omega) ?_
        refine W.need (by show 0 ≤ IntKind.i64.wrap (IntKind.i64.wrap ((a' : Int) + IntKind.i64.wrap (n : Int)) - IntKind.i64.wrap (n : Int)) ∧ IntKind.i64.wrap (IntKind.i64.wrap ((a' : Int) + IntKind.i64.wrap (n : Int)) - IntKind.i64.wrap (n : Int)) ≤ (((IntKind.i64.wrap ((a' : Int) + IntKind.i64.wrap (n : Int))).toNat : Nat) : Int)
                          rw [w2, w1]; omega) ?_
        refine W.ret (RetQ.all ?_)
        dsimp only
        rw [if_neg p0, if_neg (show ¬ n > s.size - a' by omega)]
        refine ⟨?_, ?_⟩
        · show AV.d (.lit (.string (s.extract (IntKind.i64.wrap (IntKind.i64.wrap ((a' : Int) + IntKind.i64.wrap (n : Int)) - IntKind.i64.wrap (n : Int))).toNat (IntKind.i64.wrap ((a' : Int) + IntKind.i64.wrap (n : Int))).toNat))) = _
          rw [w2, w1]
          rfl
        · show [Blk.var [_, AV.d (.lit (.int .i64 (IntKind.i64.wrap ((a' : Int) + IntKind.i64.wrap (n : Int))))), _]] = _
          rw [w1]
          rfl
end Go.Proofs.Ytddhlmejaobcgaa.Co
