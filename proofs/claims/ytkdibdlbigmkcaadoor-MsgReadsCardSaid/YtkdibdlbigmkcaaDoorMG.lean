import Derived.Test.YtkdibdlbigmkcaaDoorMF
set_option maxRecDepth 100000
set_option linter.unusedVariables false
set_option linter.unusedSimpArgs false
/- Layer 15: the reference's bytes. -/
namespace Go.Proofs.YtkdibdlbigmkcaaDoor.Ms
open Go Go.Am Co
def od22 : Ords := [(1, [0, 1, 3, 4, 2, 1005, 6, 7]), (14, [0, 1, 2, 4, 5, 3, 6, 7, 8, 9]), (17, [0, 1, 2, 4, 5, 6, 3, 7, 8, 9, 10]), (21, [0, 1, 2, 4, 5, 3, 6, 7, 8, 9])]
theorem code22 : codeB Tryd.f22.ntmps od22 (match Tryd.f22.body with | some c => c | none => .skip) = true := by kernel_rfl
def od7 : Ords := []
theorem code7 : codeB Tryd.f7.ntmps od7 (match Tryd.f7.body with | some c => c | none => .skip) = true := by kernel_rfl
theorem max_le {a b : ByteArray} (h : a.size + b.size ≤ 9000000000000000000) : ((a.size + b.size : Nat) : Int) ≤ IntKind.i64.max := by rw [maxI]; omega
theorem bA_append (a b : List UInt8) : bA a ++ bA b = bA (a ++ b) := Co.bA_append a b
theorem okwI (a : Int) (h1 : -9223372036854775808 ≤ a) (h2 : a < 9223372036854775808) : Go.Am.Pure Tryd.prog 38 [.d (nI a)] (.d (sD (bA (enc (zz a))))) := Co.ok38 a h1 h2
theorem okwT (s : ByteArray) (hs : s.size ≤ 4611686018427387904) : Go.Am.Pure Tryd.prog 39 [.d (sD s)] (.d (sD (bA (encT s)))) := Co.ok39 s hs
theorem bA_nil : bA [] = mt := rfl
theorem tr1 {T : List Nat} {n : Nat} (h : n = 1) : ∀ i, i < n → (0 :: T)[i]? = some i := fun i hi => by
  have : i = 0 := by omega
  subst this; rfl
theorem szA (l : List UInt8) : (bA l).size = l.length := rfl
set_option maxHeartbeats 16000000 in
theorem ok22 (m : Mg) (hg : Good m) (ho : m.ok) : Go.Am.Pure Tryd.prog 22 [mgG m] (.d (sD (bA (bytesM m)))) := by
  refine CallOk.of tysOk mixed od22 Tryd.func22 rfl rfl code22 ?_
  have hks := ho.k
  have hgs := ho.g
  have w1 := okwI m.k hks.1 hks.2
  have w2 := okwT m.g (by omega)
  have z1 := enc_len10 (zz_lt hks.1 hks.2)
  have z2 := encT_len hgs
  refine W.pure w1 rfl rfl ?_
  refine W.pure w2 rfl rfl ?_
  refine W.need (max_le (by rw [szA, szA]; omega)) ?_
  have hb : (enc (zz m.k) ++ encT m.g).length ≤ 1000020 := by simp only [List.length_append]; omega
  by_cases hk1 : m.k = 1
  · have f1 : (m.k == 1) = true := by simpa using hk1
    have e1 := bytesM_k1 hk1
    have hf := ho.f
    have hnn : nF m = if m.any = true then -1 else (m.f.length : Int) := rfl
    rcases Bool.eq_false_or_eq_true m.any with ha | ha
    rotate_left
    · rw [ha, if_neg (by decide)] at hnn
      rw [hnn] at e1
      have w3 := okwI (m.f.length : Int) (by omega) (by omega)
      have z3 := enc_len10 (n := zz (m.f.length : Int)) (zz_lt (by omega) (by omega))
      repeat (first | refine W.ite_t f1 ?_ | refine W.ite_f ha ?_ | refine W.ite_t rfl ?_ | refine W.ite_f rfl ?_)
      refine W.pure w3 rfl rfl ?_
      refine W.need (max_le (by rw [bA_append, szA, szA]; omega)) ?_
      rw [e1, ← List.append_assoc, ← List.append_assoc]
      refine W.loop (fun k fr σ => ∃ i : Nat, fr = [(3, .d (sD (bA (((enc (zz m.k) ++ encT m.g) ++ enc (zz m.f.length)) ++ (m.f.take i).flatMap encT)))), (30, slS m.f), (31, .d (nI m.f.length)), (32, .d (nI i))] ∧ σ = [.var ((mgD m).map .d)] ∧ i ≤ m.f.length ∧ k = m.f.length - i) m.f.length
        (Start.of [3, 30, 31, 32] [] (by simp)) ⟨0, by rw [List.take_zero, List.flatMap_nil, List.append_nil, ← bA_append, ← bA_append]; rfl, rfl, by omega, rfl⟩ ?_
      rintro k fr σ ⟨i, rfl, rfl, hi, rfl⟩
      have hfl := flat_len (c := encT) (b := 1000010) (l := m.f.take i) fun x hx => encT_len (ho.fs x (List.mem_of_mem_take hx))
      have hti : (m.f.take i).length = i := by simp; omega
      have hlen : (((enc (zz m.k) ++ encT m.g) ++ enc (zz m.f.length)) ++ (m.f.take i).flatMap encT).length ≤ 1100000000 := by simp only [List.length_append] at *; rw [hti] at hfl; omega
      generalize hacc : ((enc (zz m.k) ++ encT m.g) ++ enc (zz m.f.length)) = b1 at *
      refine W.ite (fun c1 => ?_) (fun c1 => ?_)
      · have hil : i < m.f.length := by have := of_decide_eq_true c1; omega
        obtain ⟨s, hs⟩ : ∃ s, m.f[i]? = some s := ⟨_, List.getElem?_eq_getElem hil⟩
        have hsz := ho.fs s (List.mem_of_getElem? hs)
        have w4 := okwT s (by omega)
        have z4 := encT_len hsz
        refine W.need (ix_ok sC_len (by decide) hil) ?_
        refine W.ld (sE hs) ?_
        refine W.pure w4 rfl rfl ?_
        refine W.need (max_le (by rw [szA, szA]; omega)) ?_
        refine W.ret ⟨_, _, _, ?_, Trim.of [3, 30, 31, 32] [0] (by decide) (by simp) (tr1 rfl), i + 1, ?_, rfl, by omega, rfl⟩
        · omega
        · rw [flat_next hs, ← List.append_assoc, ← bA_append, ← wrapS (by omega)]; rfl
      · have hil : i = m.f.length := by have := of_decide_eq_false c1; omega
        subst hil
        rw [List.take_length]
        exact W.ret (W.ret (RetQ.pure rfl rfl))
    · rw [ha, if_pos rfl] at hnn
      rw [hnn, (hg.k1 hk1).1 ha, List.flatMap_nil, List.append_nil] at e1
      have w3 := okwI (-1) (by omega) (by omega)
      have z3 := enc_len10 (n := zz (-1)) (by decide)
      repeat (first | refine W.ite_t f1 ?_ | refine W.ite_t ha ?_ | refine W.ite_t rfl ?_ | refine W.ite_f rfl ?_)
      refine W.pure w3 rfl rfl ?_
      refine W.need (max_le (by rw [bA_append, szA, szA]; omega)) ?_
      rw [e1, ← List.append_assoc, ← bA_append, ← bA_append]
      exact W.ret (RetQ.pure rfl rfl)
  have f1 : (m.k == 1) = false := by simpa using hk1
  by_cases hk2 : m.k = 2
  · have f2 : (m.k == 2) = true := by simpa using hk2
    rw [show bytesM m = enc (zz m.k) ++ encT m.g from by rw [bytesM_k2 hk1 (by omega), List.append_nil], ← bA_append]
    repeat (first | refine W.ite_f f1 ?_ | refine W.ite_t f2 ?_ | refine W.ite_t rfl ?_ | refine W.ite_f rfl ?_)
    exact W.ret (RetQ.pure rfl rfl)
  have f2 : (m.k == 2) = false := by simpa using hk2
  have hp := ho.p
  have hq := ho.q
  have wp := okwI m.p hp.1 hp.2
  have wq := okwI m.q hq.1 hq.2
  have zp := enc_len10 (zz_lt hp.1 hp.2)
  have zq := enc_len10 (zz_lt hq.1 hq.2)
  repeat (first | refine W.ite_f f1 ?_ | refine W.ite_f f2 ?_ | refine W.ite_t rfl ?_ | refine W.ite_f rfl ?_)
  refine W.pure wp rfl rfl ?_
  refine W.pure wq rfl rfl ?_
  refine W.need (max_le (by rw [szA, szA]; omega)) ?_
  refine W.need (max_le (by rw [bA_append, bA_append, szA, szA]; simp only [List.length_append] at *; omega)) ?_
  by_cases hk5 : m.k = 5
  · have f5 : (m.k == 5) = true := by simpa using hk5
    rw [bytesM_k5 hk5, ← List.append_assoc, ← bA_append, ← bA_append, ← bA_append]
    repeat (first | refine W.ite_t f5 ?_ | refine W.ite_t rfl ?_ | refine W.ite_f rfl ?_)
    exact W.ret (RetQ.pure rfl rfl)
  have f5 : (m.k == 5) = false := by simpa using hk5
  have hh := ho.h
  have hk34 : m.k = 3 ∨ m.k = 4 := by have := hg.k; omega
  have hv := (hg.k345 (by omega)).2
  have wh := okwI m.h hh.1 hh.2
  have wl := okwI (m.v.length : Int) (by omega) (by omega)
  have zh := enc_len10 (zz_lt hh.1 hh.2)
  have zl := enc_len10 (n := zz (m.v.length : Int)) (zz_lt (by omega) (by omega))
  repeat (first | refine W.ite_f f5 ?_ | refine W.ite_t rfl ?_ | refine W.ite_f rfl ?_)
  refine W.pure wh rfl rfl ?_
  refine W.pure wl rfl rfl ?_
  refine W.need (max_le (by rw [szA, szA]; omega)) ?_
  refine W.need (max_le (by rw [bA_append, bA_append, bA_append, bA_append, szA, szA]; simp only [List.length_append] at *; omega)) ?_
  have hB : bytesM m = ((((enc (zz m.k) ++ encT m.g) ++ (enc (zz m.p) ++ enc (zz m.q))) ++ (enc (zz m.h) ++ enc (zz m.v.length))) ++ m.v.flatMap encV) ++ encT m.t := by rw [bytesM_k34 hk34]; simp only [List.append_assoc]
  rw [hB]
  refine W.loop (fun k fr σ => ∃ i : Nat, fr = [(1, .ptr 0 0), (3, .d (sD (bA ((((enc (zz m.k) ++ encT m.g) ++ (enc (zz m.p) ++ enc (zz m.q))) ++ (enc (zz m.h) ++ enc (zz m.v.length))) ++ (m.v.take i).flatMap encV)))), (70, slV m.v), (71, .d (nI m.v.length)), (72, .d (nI i))] ∧ σ = [.var ((mgD m).map .d)] ∧ i ≤ m.v.length ∧ k = m.v.length - i) m.v.length
    (Start.of [1, 3, 70, 71, 72] [] (by simp)) ⟨0, by rw [List.take_zero, List.flatMap_nil, List.append_nil, ← bA_append, ← bA_append, ← bA_append, ← bA_append, ← bA_append]; rfl, rfl, by omega, rfl⟩ ?_
  rintro k fr σ ⟨i, rfl, rfl, hi, rfl⟩
  have hfl := flat_len (c := encV) (b := 1000020) (l := m.v.take i) fun x hx => by
    have h1 := ho.vs x (List.mem_of_mem_take hx)
    have := enc_len10 (zz_lt h1.1.1 h1.1.2)
    have := encT_len h1.2
    simp only [encV, List.length_append]; omega
  have hti : (m.v.take i).length = i := by simp; omega
  have hlen : ((((enc (zz m.k) ++ encT m.g) ++ (enc (zz m.p) ++ enc (zz m.q))) ++ (enc (zz m.h) ++ enc (zz m.v.length))) ++ (m.v.take i).flatMap encV).length ≤ 1100000000 := by simp only [List.length_append] at *; rw [hti] at hfl; omega
  generalize hacc : (((enc (zz m.k) ++ encT m.g) ++ (enc (zz m.p) ++ enc (zz m.q))) ++ (enc (zz m.h) ++ enc (zz m.v.length))) = b1 at *
  refine W.ite (fun c1 => ?_) (fun c1 => ?_)
  · have hil : i < m.v.length := by have := of_decide_eq_true c1; omega
    obtain ⟨x, hx⟩ : ∃ x, m.v[i]? = some x := ⟨_, List.getElem?_eq_getElem hil⟩
    have hxo := ho.vs x (List.mem_of_getElem? hx)
    have w4 := okwI x.1 hxo.1.1 hxo.1.2
    have w5 := okwT x.2 (by omega)
    have z4 := enc_len10 (zz_lt hxo.1.1 hxo.1.2)
    have z5 := encT_len hxo.2
    refine W.need (ix_ok vC_len (by decide) hil) ?_
    refine W.ld (vE hx) ?_
    refine W.pure w4 rfl rfl ?_
    refine W.pure w5 rfl rfl ?_
    refine W.need (max_le (by rw [szA, szA]; omega)) ?_
    refine W.need (max_le (by rw [bA_append, szA, szA]; simp only [List.length_append] at *; omega)) ?_
    refine W.ret ⟨_, _, _, ?_, Trim.of [1, 3, 70, 71, 72] [0] (by decide) (by simp) (tr1 rfl), i + 1, ?_, rfl, by omega, rfl⟩
    · omega
    · rw [flat_next hx, ← List.append_assoc, ← bA_append, show encV x = enc (zz x.1) ++ encT x.2 from rfl, ← bA_append, ← wrapS (by omega)]; rfl
  · have hil : i = m.v.length := by have := of_decide_eq_false c1; omega
    subst hil
    rw [List.take_length] at *
    have ht := ho.t
    have w6 := okwT m.t (by omega)
    have z6 := encT_len ht
    refine W.ret ?_
    refine W.pure w6 rfl rfl ?_
    refine W.need (max_le (by rw [szA, szA]; omega)) ?_
    rw [← bA_append]
    exact W.ret (RetQ.pure rfl rfl)
theorem ok7 (m : Mg) (ho : m.ok) : Go.Am.Pure Tryd.prog 7 [mgG m] (.tuple [.d (sD (bytes m).1), .d (nI (bytes m).2)]) := by
  refine CallOk.of tysOk mixed od7 Tryd.func7 rfl rfl code7 ?_
  have kc := ok12 m
  refine W.pure kc rfl rfl ?_
  unfold bytes
  by_cases hc : checkB m = 0
  · have hg := good_of hc
    have kt := ok22 m hg ho
    rw [if_neg (by omega), hc]
    refine W.ite_f rfl ?_
    refine W.pure kt rfl rfl ?_
    refine W.ite (fun c => ?_) (fun c => ?_)
    · have := of_decide_eq_true c
      rw [if_pos (by rw [szA] at this; omega)]
      exact W.ret (RetQ.pure rfl rfl)
    · have := of_decide_eq_false c
      rw [if_neg (by rw [szA] at this; omega)]
      exact W.ret (RetQ.pure rfl rfl)
  · rw [if_pos hc]
    refine W.ite_t (by simpa using hc) ?_
    exact W.ret (RetQ.pure rfl rfl)
end Go.Proofs.YtkdibdlbigmkcaaDoor.Ms
