import Derived.Test.YtkdibdlbigmkcaaDoorMH
import Derived.Test.YtkdibdlbigmkcaaDoorA
set_option maxRecDepth 100000
set_option linter.unusedVariables false
set_option linter.unusedSimpArgs false
/- Layer 15: MsgWrites, MsgReads. -/
namespace Go.Proofs.YtkdibdlbigmkcaaDoor.Ms
open Go Go.Am Co
def od3 : Ords := [(4, [1000, 1, 2, 5, 3, 4, 1006, 1007, 8, 9, 10, 11, 12, 13, 14, 15, 16, 18, 17, 19, 20, 21])]
theorem code3 : codeB Tryd.f3.ntmps od3 (match Tryd.f3.body with | some c => c | none => .skip) = true := by kernel_rfl
def od4 : Ords := [(11, [0, 1, 2, 3, 4, 5, 6, 7, 8, 9, 10, 11, 12, 13, 14, 15, 16, 17, 18, 19, 20, 21, 22, 23, 24, 25, 26, 27, 28, 29])]
theorem code4 : codeB Tryd.f4.ntmps od4 (match Tryd.f4.body with | some c => c | none => .skip) = true := by kernel_rfl
theorem bytes_cases (m : Mg) : (checkB m = 0 ∧ (bytesM m).length ≤ 1970 ∧ bytes m = (bA (bytesM m), 0)) ∨ ∃ c, (c = 1 ∨ c = 11 ∨ c = 4) ∧ bytes m = (mt, c) := by
  by_cases hc : checkB m = 0
  · by_cases hl : (bytesM m).length ≤ 1970
    · exact .inl ⟨hc, hl, bytes_ok hc hl⟩
    · exact .inr ⟨4, by omega, by unfold bytes; rw [if_neg (by omega), if_pos (by omega)]⟩
  · refine .inr ⟨checkB m, ?_, by unfold bytes; rw [if_pos hc]⟩
    rcases checkB_cases m with h | h | h <;> omega
theorem okOfC (c : Int) : Go.Am.Pure Tryd.prog 10 [.d (errC c)] (.d (nI c)) := by
  unfold errC
  by_cases h : c = 0
  · rw [if_pos h, h]; exact As.okOfNil
  · rw [if_neg h]; exact As.okOf _ _ _
theorem cut_cut (s : ByteArray) (n : Nat) : cut (cut s n) n = cut s n := by
  have := cut_size s n
  rw [cut, if_neg (by omega)]
theorem vals6_6 (v : List Vl) : vals6 (vals6 v) = vals6 v := by
  unfold vals6
  rw [List.take_of_length_le (by simp; omega), List.map_map]
  congr 1
  funext x
  show (x.1, cut (cut x.2 50) 50) = (x.1, cut x.2 50)
  rw [cut_cut]
theorem told_cut (m : Mg) : toldM (cutM m) = cutM m := by
  show (⟨_, _, _, _, _, _, _, vals6 (vals6 m.v), _⟩ : Mg) = _
  rw [vals6_6]
  rfl
/-- Numbers that fit, in a message as it's handed in. -/
structure Mg.num (m : Mg) : Prop where
  k : R64 m.k
  p : R64 m.p
  q : R64 m.q
  h : R64 m.h
  v : ∀ x ∈ m.v, R64 x.1
theorem cutM_ok {m : Mg} (h : m.num) : (cutM m).ok := by
  have c1 := cut_size m.g 50
  have c2 := cut_size m.t 2100
  refine ⟨h.k, by show (cut m.g 50).size ≤ _; omega, by simp [cutM]; omega, fun s hs => ?_, h.p, h.q, h.h, by simp [cutM, vals6]; omega, fun x hx => ?_, by show (cut m.t 2100).size ≤ _; omega⟩
  · simp only [cutM, List.mem_map] at hs
    obtain ⟨y, _, rfl⟩ := hs
    have := cut_size y 400
    omega
  · simp only [cutM, vals6, List.mem_map] at hx
    obtain ⟨y, hy, rfl⟩ := hx
    have := cut_size y.2 50
    exact ⟨h.v y (List.mem_of_mem_take hy), by show (cut y.2 50).size ≤ _; omega⟩
set_option maxHeartbeats 16000000 in
theorem ok3 (m : Mg) (hm : m.num) : Go.Am.Pure Tryd.prog 3 [mgG m] (bI true) := by
  have kc := ok5 m
  have ho := cutM_ok hm
  have ht := told_cut m
  generalize cutM m = m at kc ho ht
  rename_i m0
  have kb := ok6 m ho
  have kt := ok8 m
  rw [ht] at kt
  have kr := ok7 m ho
  have kk := ok11 m
  have kq := ok12 m
  have ko := okOfC (checkB m)
  have kp := okOfC (bytes m).2
  have hcb := checkB_cases m
  have hby : (bytes m).2 = 0 ∨ (bytes m).2 = 1 ∨ (bytes m).2 = 11 ∨ (bytes m).2 = 4 := by
    rcases bytes_cases m with ⟨_, _, h⟩ | ⟨c, hc, h⟩ <;> rw [h]
    · exact .inl rfl
    · rcases hc with rfl | rfl | rfl
      · exact .inr (.inl rfl)
      · exact .inr (.inr (.inl rfl))
      · exact .inr (.inr (.inr rfl))
  generalize bytes m = B at *
  obtain ⟨b, c⟩ := B
  dsimp only at hby kb kr kp
  generalize checkB m = d at *
  have eb := toList_beq b
  refine CallOk.of tysOk mixed od3 Tryd.func3 rfl rfl code3 ?_
  refine W.pure kc rfl rfl ?_
  rcases hby with rfl | rfl | rfl | rfl <;> rcases hcb with rfl | rfl | rfl
  all_goals
    refine W.pure kb rfl rfl ?_
    refine W.pure kt rfl rfl ?_
    refine W.pure kr rfl rfl ?_
    refine W.pure ok9 rfl rfl ?_
    repeat (first | refine W.ite_t rfl ?_ | refine W.ite_f rfl ?_)
    refine W.pure kk rfl rfl ?_
    repeat (first | refine W.ite_t rfl ?_ | refine W.ite_f rfl ?_)
    refine W.pure ko rfl rfl ?_
    repeat (first | refine W.ite_t rfl ?_ | refine W.ite_f rfl ?_)
    refine W.pure kt rfl rfl ?_
    repeat (first | refine W.ite_t rfl ?_ | refine W.ite_f rfl ?_)
    refine W.pure kq rfl rfl ?_
    repeat (first | refine W.ite_t rfl ?_ | refine W.ite_f rfl ?_ | refine W.ite_t eb ?_)
    refine W.pure kp rfl rfl ?_
    repeat (first | refine W.ite_t rfl ?_ | refine W.ite_f rfl ?_ | refine W.ite_t eb ?_)
    exact W.ret (RetQ.pure rfl rfl)
theorem readC_cases (s : ByteArray) : (∃ m, readM s = (m, .lit .nilIface) ∧ codeM s = 0) ∨ ∃ w a c, readM s = (zeroM, ftD w a c) ∧ codeM s = c := by
  by_cases hs : s.size > 1970
  · exact .inr ⟨_, _, _, readM_big hs, codeM_big hs⟩
  cases hr : rawM s with
  | none => exact .inr ⟨_, _, _, readM_none hs hr, codeM_none hs hr⟩
  | some x =>
    obtain ⟨m', a, e⟩ := x
    cases hE : doneE s a e with
    | some x => exact .inr ⟨_, _, _, readM_bad hs hr hE, codeM_bad hs hr hE⟩
    | none =>
      by_cases hc : checkB m' = 0
      · exact .inl ⟨_, readM_good hs hr hE hc, by rw [codeM_good hs hr hE, hc]⟩
      · refine .inr ⟨msgW, 0, checkB m', ?_, codeM_good hs hr hE⟩
        rw [readM_check hs hr hE rfl hc, errC, if_neg hc]
theorem vE0 {l : List Vl} {i : Nat} {x : Vl} (h : l[i]? = some x) : Elem (flat vC l) [.int .i64] (i * 2 + 0) 1 [nI x.1] := Elem.of vC_len h _ 0 rfl (by decide) ⟨rfl, True.intro⟩ rfl
theorem vE1 {l : List Vl} {i : Nat} {x : Vl} (h : l[i]? = some x) : Elem (flat vC l) [.str] (i * 2 + 1) 1 [sD x.2] := Elem.of vC_len h _ 1 rfl (by decide) ⟨rfl, True.intro⟩ rfl
theorem readM_small {s : ByteArray} (hs : s.size ≤ 2100) : (readM s).1.f.length ≤ 1000000 ∧ (readM s).1.v.length ≤ 1000000 := by
  rcases readC_cases s with ⟨m, h, _⟩ | ⟨w, a, c, h, _⟩
  · rw [h]
    obtain ⟨h1, h2, h3⟩ := readM_inv h
    have hg := good_of h2
    dsimp only
    rcases hg.k with e | e | e | e | e
    · have := (hg.k1 e).2; rw [(plain_of (hg.k12 (.inl e))).2.2.2.1]; exact ⟨by omega, by simp⟩
    · rw [(hg.n1 (by omega)).2, (plain_of (hg.k12 (.inr e))).2.2.2.1]; simp
    all_goals
      rw [(hg.n1 (by omega)).2]; have := (hg.k345 (by omega)).2; exact ⟨by simp, by omega⟩
  · rw [h]; show 0 ≤ 1000000 ∧ 0 ≤ 1000000; decide
set_option maxHeartbeats 16000000 in
theorem ok4 (t : ByteArray) : Go.Am.Pure Tryd.prog 4 [.d (sD t)] (bI true) := by
  have kc := ok13 t 2100
  have hs := cut_size t 2100
  generalize cut t 2100 = s at kc hs
  have k1 := ok14 s (by omega)
  have k2 := ok15 s (by omega)
  obtain ⟨hf, hv⟩ := readM_small hs
  have k3 := ok16 (readM s).1 hf hv
  have k4 : Go.Am.Pure Tryd.prog 10 [.d (readM s).2] (.d (nI (codeM s))) := by
    rcases readC_cases s with ⟨m, h, hc⟩ | ⟨w, a, c, h, hc⟩
    · rw [h, hc]; exact As.okOfNil
    · rw [h, hc]; exact As.okOf _ _ _
  unfold rrA at k2
  have hd := readC_cases s
  refine CallOk.of tysOk mixed od4 Tryd.func4 rfl rfl code4 ?_
  refine W.pure kc rfl rfl ?_
  have hd2 : (readM s).2 = .lit .nilIface ∨ ∃ w a c, (readM s).2 = ftD w a c := by
    rcases hd with ⟨m, h, hc⟩ | ⟨w, a, c, h, hc⟩
    · exact .inl (by rw [h])
    · exact .inr ⟨w, a, c, by rw [h]⟩
  clear hd
  generalize codeM s = cd at *
  generalize readM s = R at *
  obtain ⟨m, d⟩ := R
  dsimp only at k1 k2 k3 k4 hf hv hd2
  have hcd : (cd != cd) = false := by simp
  have hvl : ((m.v.length : Int) != (m.v.length : Int)) = false := by simp
  rcases hd2 with rfl | ⟨w, a, c, rfl⟩
  all_goals
    refine W.pure k1 rfl rfl ?_
    refine W.pure k2 rfl rfl ?_
    refine W.pure ok9 rfl rfl ?_
    repeat (first | refine W.ite_t rfl ?_ | refine W.ite_f rfl ?_)
    refine W.pure k4 rfl rfl ?_
    repeat (first | refine W.ite_t rfl ?_ | refine W.ite_f rfl ?_ | refine W.ite_f hcd ?_ | refine W.ite_f hvl ?_)
    refine W.loop (fun k fr σ => ∃ i : Nat, fr = [(3, .ptr 0 0), (5, .ptr 1 0), (7, .ptr 2 0), (62, .d (nI m.v.length)), (63, .d (nI i))] ∧ σ = [.var ((mgD m).map .d), .var ((mgD m).map .d), .var ((mgD m).map .d)] ∧ i ≤ m.v.length ∧ k = m.v.length - i) m.v.length
      (Start.of [3, 5, 7, 62, 63] [] (by simp)) ⟨0, rfl, rfl, by omega, rfl⟩ ?_
    rintro k fr σ ⟨i, rfl, rfl, hi, rfl⟩
    refine W.ite (fun c1 => ?_) (fun c1 => ?_)
    · have hil : i < m.v.length := by have := of_decide_eq_true c1; omega
      obtain ⟨x, hx⟩ : ∃ x, m.v[i]? = some x := ⟨_, List.getElem?_eq_getElem hil⟩
      have wi : IntKind.i64.wrap ((i : Int) + 1) = ((i + 1 : Nat) : Int) := by rw [wrap64 (by omega) (by omega)]; omega
      have nx : (x.1 != x.1) = false := by simp
      have tx := toList_bne x.2
      refine W.need (ix_ok vC_len (by decide) hil) ?_
      refine W.ld (vE0 hx) ?_
      refine W.need (ix_ok vC_len (by decide) hil) ?_
      refine W.ld (vE0 hx) ?_
      repeat (first | refine W.ite_t rfl ?_ | refine W.ite_f rfl ?_ | refine W.ite_f nx ?_)
      refine W.need (ix_ok vC_len (by decide) hil) ?_
      repeat (first | refine W.ite_t rfl ?_ | refine W.ite_f rfl ?_ | refine W.ite_f nx ?_)
      refine W.ld (vE1 hx) ?_
      repeat (first | refine W.ite_t rfl ?_ | refine W.ite_f rfl ?_ | refine W.ite_f nx ?_)
      refine W.need (ix_ok vC_len (by decide) hil) ?_
      repeat (first | refine W.ite_t rfl ?_ | refine W.ite_f rfl ?_ | refine W.ite_f nx ?_)
      refine W.ld (vE1 hx) ?_
      repeat (first | refine W.ite_t rfl ?_ | refine W.ite_f rfl ?_ | refine W.ite_f nx ?_ | refine W.ite_f tx ?_)
      refine W.ret ⟨_, _, _, ?_, Trim.of [3, 5, 7, 62, 63] [0, 1, 2] (by decide) (by simp) (tr3 rfl), i + 1, ?_, rfl, by omega, rfl⟩
      · omega
      · rw [← wi]; rfl
    · refine W.ret ?_
      refine W.pure k3 rfl rfl ?_
      exact W.ret (RetQ.pure rfl rfl)
end Go.Proofs.YtkdibdlbigmkcaaDoor.Ms
