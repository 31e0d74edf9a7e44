import Derived.Test.YtkdibdlbigmkcaaDoorMP
set_option maxRecDepth 100000
set_option linter.unusedVariables false
set_option linter.unusedSimpArgs false
/- Layer 15: the helpers of its laws. -/
namespace Go.Proofs.YtkdibdlbigmkcaaDoor.Ms
open Go Go.Am Co
def od17 : Ords := []
theorem code17 : codeB Tryd.f17.ntmps od17 (match Tryd.f17.body with | some c => c | none => .skip) = true := by kernel_rfl
def od5 : Ords := [(7, [0, 1, 2, 3, 4, 5, 6, 7, 8, 1009, 10, 1011])]
theorem code5 : codeB Tryd.f5.ntmps od5 (match Tryd.f5.body with | some c => c | none => .skip) = true := by kernel_rfl
def od8 : Ords := []
theorem code8 : codeB Tryd.f8.ntmps od8 (match Tryd.f8.body with | some c => c | none => .skip) = true := by kernel_rfl
def od16 : Ords := [(6, [0, 1, 2, 3, 4, 5, 6, 7, 8, 9, 10])]
theorem code16 : codeB Tryd.f16.ntmps od16 (match Tryd.f16.body with | some c => c | none => .skip) = true := by kernel_rfl
def od9 : Ords := []
theorem code9 : codeB Tryd.f9.ntmps od9 (match Tryd.f9.body with | some c => c | none => .skip) = true := by kernel_rfl
def od36 : Ords := [(6, [0, 1, 2, 3, 4, 5, 6, 7, 8])]
theorem code36 : codeB Tryd.f36.ntmps od36 (match Tryd.f36.body with | some c => c | none => .skip) = true := by kernel_rfl
theorem toList_beq (s : ByteArray) : (s.toList == s.toList) = true := beq_self_eq_true _
theorem toList_bne (s : ByteArray) : (!(s.toList == s.toList)) = false := by rw [toList_beq]; rfl
theorem ok36 (l : List ByteArray) (hl : l.length ≤ 1000000) : Go.Am.Pure Tryd.prog 36 [slS l, slS l] (bI true) := by
  refine CallOk.of tysOk mixed od36 Tryd.func36 rfl rfl code36 ?_
  have h0 : ((l.length : Int) != (l.length : Int)) = false := by simp
  refine W.ite_f h0 ?_
  refine W.loop (fun k fr σ => ∃ i : Nat, fr = [(0, slS l), (1, slS l), (12, .d (nI l.length)), (13, .d (nI i))] ∧ σ = [] ∧ i ≤ l.length ∧ k = l.length - i) l.length
    (Start.of [0, 1, 12, 13] [] (by simp)) ⟨0, rfl, rfl, by omega, rfl⟩ ?_
  rintro k fr σ ⟨i, rfl, rfl, hi, rfl⟩
  refine W.ite (fun c1 => ?_) (fun c1 => ?_)
  · have hil : i < l.length := by have := of_decide_eq_true c1; omega
    obtain ⟨s, hs⟩ : ∃ s, l[i]? = some s := ⟨_, List.getElem?_eq_getElem hil⟩
    have wi : IntKind.i64.wrap ((i : Int) + 1) = ((i + 1 : Nat) : Int) := by rw [wrap64 (by omega) (by omega)]; omega
    refine W.need (ix_ok sC_len (by decide) hil) ?_
    refine W.ld (sE hs) ?_
    refine W.need (ix_ok sC_len (by decide) hil) ?_
    refine W.ld (sE hs) ?_
    refine W.ite_f (toList_bne s) ?_
    refine W.ret ⟨_, _, _, ?_, Trim.of [0, 1, 12, 13] [] (by decide) (by simp) (by simp), i + 1, ?_, rfl, by omega, rfl⟩
    · omega
    · rw [← wi]; rfl
  · exact W.ret (W.ret (RetQ.pure rfl rfl))
def cutV (x : Vl) : Vl := (x.1, cut x.2 50)
def vals6 (v : List Vl) : List Vl := (v.take 6).map cutV
abbrev evA (v : List Vl) (t : ByteArray) : AV := .d (.agg [.sl v.length (flat vC v), sD t])
theorem map_next {α β : Type} {f : α → β} {l : List α} {i : Nat} {x : α} (h : l[i]? = some x) : (l.take (i + 1)).map f = (l.take i).map f ++ [f x] := by
  rw [take_next h]; simp
theorem vC_one2 (a : Int) (b : ByteArray) : ∀ d ∈ [nI a, sD b], d.one = true := vC_one (a, b)
set_option maxHeartbeats 16000000 in
theorem ok17 (v : List Vl) (t : ByteArray) : Go.Am.Pure Tryd.prog 17 [evA v t] (.tuple [evA (vals6 v) (cut t 210), slV (vals6 v)]) := by
  refine CallOk.of tysOk mixed od17 Tryd.func17 rfl rfl code17 ?_
  refine W.pure (ok13 t 210) rfl rfl ?_
  generalize cut t 210 = pay
  refine W.loop (fun k fr σ => ∃ (i : Nat), fr = [(1, .ptr 0 0), (2, .ptr 1 0), (4, .ptr 3 0), (5, .vec 2 i), (6, .d (nI i))] ∧
      σ = [.var [.d (.sl v.length (flat vC v)), .d (sD t)], .var [nilA, .d (sD mt)], .vec 2 i (flat vC ((v.take i).map cutV)), .var [.vec 4 i, .d (sD pay)], .vec 2 i (flat vC ((v.take i).map cutV))] ∧ i ≤ v.length ∧ i ≤ 6 ∧ k = 6 - i) 6
    (Start.trans (Start.nil 3 0 2 rfl rfl) (Start.of [1, 2, 4, 5, 6] [] (by simp))) ?_ ?_
  · exact ⟨0, rfl, rfl, by omega, by omega, rfl⟩
  rintro k fr σ ⟨i, rfl, rfl, hi, hi6, rfl⟩
  have hlen : ((v.take i).map cutV).length = i := by simp; omega
  have fin : ∀ {σ : Store}, (v.take i).map cutV = vals6 v → σ = [.var [.d (.sl v.length (flat vC v)), .d (sD t)], .var [.vec 4 i, .d (sD pay)], .vec 2 i (flat vC ((v.take i).map cutV)), .var [.vec 4 i, .d (sD pay)], .vec 2 i (flat vC ((v.take i).map cutV))] →
      RetQ ([] : Store).length (fun x s => x = .tuple [evA (vals6 v) pay, slV (vals6 v)] ∧ s = []) .ret
        [(0, .tuple [mkAgg [.vec 4 i, .d (sD pay)], .vec 2 i])] σ := fun {σ} hL hσ => by
    subst hσ
    refine RetQ.part [] (by decide) (by simp) (by simp) ⟨?_, rfl⟩
    show AV.tuple [.d (.agg [.sl i ((flat vC ((v.take i).map cutV)).take (i * 2)), sD pay]), .d (.sl i ((flat vC ((v.take i).map cutV)).take (i * 2)))] = _
    rw [slvCut hlen, hL]
    rfl
  refine W.ite (fun c1 => ?_) (fun c1 => ?_)
  · have h1 := of_decide_eq_true c1
    repeat (first | refine W.ite_t rfl ?_ | refine W.ite_f rfl ?_ | refine W.ite_t c1 ?_)
    refine W.ite (fun c2 => ?_) (fun c2 => ?_)
    · have h2 := of_decide_eq_true c2
      obtain ⟨x, hx⟩ : ∃ x, v[i]? = some x := ⟨_, List.getElem?_eq_getElem (by omega)⟩
      have wi : IntKind.i64.wrap ((i : Int) + 1) = ((i + 1 : Nat) : Int) := by rw [wrap64 (by omega) (by omega)]; omega
      refine W.need (ix_ok vC_len (by decide) (by omega)) ?_
      refine W.ld (vE hx) ?_
      refine W.pure (ok13 x.2 50) rfl rfl ?_
      refine W.alt_l ?_
      refine W.need ⟨rfl, rfl, rfl, by (try simp only [List.length_nil] at *); omega, by (try simp only [List.length_nil] at *); omega, vC_one2 _ _⟩ ?_
      refine W.alt_l ?_
      refine W.need ⟨rfl, rfl, rfl, by (try simp only [List.length_nil] at *); omega, by (try simp only [List.length_nil] at *); omega, vC_one2 _ _⟩ ?_
      refine W.ret ⟨_, _, _, ?_, Trim.of [1, 2, 4, 5, 6] [0, 1, 2, 3, 4] (by decide) (by simp) (tr4 rfl), i + 1, ?_, ?_, by omega, by omega, rfl⟩
      · omega
      · rw [← wi]; rfl
      · rw [map_next hx, flat_append]; rfl
    · have h2 := of_decide_eq_false c2
      have h6 : i = 6 := by omega
      repeat (first | refine W.ite_t rfl ?_ | refine W.ite_f rfl ?_ | refine W.ite_f c2 ?_)
      exact W.ret (W.ret (fin (by rw [h6]; rfl) rfl))
  · have h1 := of_decide_eq_false c1
    have h6 : i = v.length := by omega
    repeat (first | refine W.ite_t rfl ?_ | refine W.ite_f rfl ?_ | refine W.ite_f c1 ?_)
    exact W.ret (W.ret (fin (by unfold vals6; rw [List.take_of_length_le (by omega), List.take_of_length_le (by omega)]) rfl))
def cutM (m : Mg) : Mg := { m with g := cut m.g 50, f := (m.f.take 20).map (cut · 400), v := vals6 m.v, t := cut m.t 2100 }
def toldM (m : Mg) : Mg := { m with v := vals6 m.v }
set_option maxHeartbeats 1000000 in
theorem ok8 (m : Mg) : Go.Am.Pure Tryd.prog 8 [mgG m] (mgG (toldM m)) := by
  obtain ⟨k, g, any, f, p, q, h, v, t⟩ := m
  have k5 := ok17 v t
  unfold toldM
  dsimp only
  generalize vals6 v = w at *
  generalize cut t 210 = pay at *
  refine CallOk.of tysOk mixed od8 Tryd.func8 rfl rfl code8 ?_
  refine W.pure k5 rfl rfl ?_
  exact W.ret (RetQ.pure rfl rfl)
set_option maxHeartbeats 16000000 in
theorem ok5 (m : Mg) : Go.Am.Pure Tryd.prog 5 [mgG m] (mgG (cutM m)) := by
  refine CallOk.of tysOk mixed od5 Tryd.func5 rfl rfl code5 ?_
  refine W.pure (ok13 m.g 50) rfl rfl ?_
  refine W.loop (fun k fr σ => ∃ (i : Nat), fr = [(1, .ptr 0 0), (2, .ptr 1 0), (3, .ptr 2 0), (4, .d (nI i))] ∧
      σ = [.var ((mgD m).map .d), .var zC, .var [.d (nI m.k), .d (sD (cut m.g 50)), .d (.lit (.bool m.any)), .vec 3 i, .d (nI m.p), .d (nI m.q), .d (nI m.h), .d (.sl m.v.length (flat vC m.v)), .d (sD m.t)], .vec 1 i (flat sC ((m.f.take i).map (cut · 400)))] ∧ i ≤ m.f.length ∧ i ≤ 20 ∧ k = 20 - i) 20
    (Start.trans (Start.nil 2 3 1 rfl rfl) (Start.of [1, 2, 3, 4] [] (by simp))) ?_ ?_
  · exact ⟨0, rfl, rfl, by omega, by omega, rfl⟩
  rintro k fr σ ⟨i, rfl, rfl, hi, hi6, rfl⟩
  have hlen : ((m.f.take i).map (cut · 400)).length = i := by simp; omega
  refine W.ite (fun c1 => ?_) (fun c1 => ?_)
  · have h1 := of_decide_eq_true c1
    repeat (first | refine W.ite_t rfl ?_ | refine W.ite_f rfl ?_ | refine W.ite_t c1 ?_)
    refine W.ite (fun c2 => ?_) (fun c2 => ?_)
    · have h2 := of_decide_eq_true c2
      obtain ⟨x, hx⟩ : ∃ x, m.f[i]? = some x := ⟨_, List.getElem?_eq_getElem (by omega)⟩
      have wi : IntKind.i64.wrap ((i : Int) + 1) = ((i + 1 : Nat) : Int) := by rw [wrap64 (by omega) (by omega)]; omega
      refine W.need (ix_ok sC_len (by decide) (by omega)) ?_
      refine W.ld (sE hx) ?_
      refine W.pure (ok13 x 400) rfl rfl ?_
      refine W.alt_l ?_
      refine W.need ⟨rfl, rfl, rfl, by (try simp only [List.length_nil] at *); omega, by (try simp only [List.length_nil] at *); omega, sC_one _⟩ ?_
      refine W.ret ⟨_, _, _, ?_, Trim.of [1, 2, 3, 4] [0, 1, 2, 3] (by decide) (by simp) (tr3 rfl), i + 1, ?_, ?_, by omega, by omega, rfl⟩
      · omega
      · rw [← wi]; rfl
      · rw [map_next hx, flat_append]; rfl
    · have h2 := of_decide_eq_false c2
      have h6 : i = 20 := by omega
      repeat (first | refine W.ite_t rfl ?_ | refine W.ite_f rfl ?_ | refine W.ite_f c2 ?_)
      refine W.ret ?_
      refine W.pure (ok17 m.v mt) rfl rfl ?_
      refine W.pure (ok13 m.t 2100) rfl rfl ?_
      refine W.ret (RetQ.part [] (by decide) (by simp) (by simp) ⟨?_, rfl⟩)
      show AV.d (.agg [nI m.k, sD (cut m.g 50), .lit (.bool m.any), .sl i ((flat sC ((m.f.take i).map (cut · 400))).take (i * 1)), nI m.p, nI m.q, nI m.h, .sl (vals6 m.v).length (flat vC (vals6 m.v)), sD (cut m.t 2100)]) = _
      rw [slCut hlen, h6]
      rfl
  · have h1 := of_decide_eq_false c1
    have h6 : i = m.f.length := by omega
    repeat (first | refine W.ite_t rfl ?_ | refine W.ite_f rfl ?_ | refine W.ite_f c1 ?_)
    refine W.ret ?_
    refine W.pure (ok17 m.v mt) rfl rfl ?_
    refine W.pure (ok13 m.t 2100) rfl rfl ?_
    refine W.ret (RetQ.part [] (by decide) (by simp) (by simp) ⟨?_, rfl⟩)
    show AV.d (.agg [nI m.k, sD (cut m.g 50), .lit (.bool m.any), .sl i ((flat sC ((m.f.take i).map (cut · 400))).take (i * 1)), nI m.p, nI m.q, nI m.h, .sl (vals6 m.v).length (flat vC (vals6 m.v)), sD (cut m.t 2100)]) = _
    rw [slCut hlen, show (m.f.take i).map (cut · 400) = (m.f.take 20).map (cut · 400) from by rw [List.take_of_length_le (by omega), List.take_of_length_le (by omega)]]
    rfl
theorem ba_refl : ∀ s : ByteArray, (s == s) = true
  | ⟨d⟩ => beq_self_eq_true d
theorem tr2 {T : List Nat} {n : Nat} (h : n = 2) : ∀ i, i < n → (0 :: 1 :: T)[i]? = some i := fun i hi => by
  have : i = 0 ∨ i = 1 := by omega
  rcases this with rfl | rfl <;> rfl
set_option maxHeartbeats 16000000 in
theorem ok16 (m : Mg) (hf : m.f.length ≤ 1000000) (hv : m.v.length ≤ 1000000) : Go.Am.Pure Tryd.prog 16 [mgG m, mgG m] (bI true) := by
  refine CallOk.of tysOk mixed od16 Tryd.func16 rfl rfl code16 ?_
  have n1 : (m.k != m.k) = false := by simp
  have n2 := toList_bne m.g
  have n3 : (m.any != m.any) = false := by simp
  have n4 : (m.p != m.p) = false := by simp
  have n5 : (m.q != m.q) = false := by simp
  have n6 : (m.h != m.h) = false := by simp
  have n7 := toList_bne m.t
  have n8 : ((m.v.length : Int) != (m.v.length : Int)) = false := by simp
  repeat (first | refine W.ite_t rfl ?_ | refine W.ite_f rfl ?_ | refine W.ite_f n1 ?_ | refine W.ite_f n2 ?_ | refine W.ite_f n3 ?_ | refine W.ite_f n4 ?_ | refine W.ite_f n5 ?_ | refine W.ite_f n6 ?_ | refine W.ite_f n7 ?_ | refine W.ite_f n8 ?_)
  refine W.loop (fun k fr σ => ∃ i : Nat, fr = [(2, .ptr 0 0), (3, .ptr 1 0), (64, .d (nI m.v.length)), (65, .d (nI i))] ∧ σ = [.var ((mgD m).map .d), .var ((mgD m).map .d)] ∧ i ≤ m.v.length ∧ k = m.v.length - i) m.v.length
    (Start.of [2, 3, 64, 65] [] (by simp)) ⟨0, rfl, rfl, by omega, rfl⟩ ?_
  rintro k fr σ ⟨i, rfl, rfl, hi, rfl⟩
  refine W.ite (fun c1 => ?_) (fun c1 => ?_)
  · have hil : i < m.v.length := by have := of_decide_eq_true c1; omega
    obtain ⟨x, hx⟩ : ∃ x, m.v[i]? = some x := ⟨_, List.getElem?_eq_getElem hil⟩
    have wi : IntKind.i64.wrap ((i : Int) + 1) = ((i + 1 : Nat) : Int) := by rw [wrap64 (by omega) (by omega)]; omega
    refine W.need (ix_ok vC_len (by decide) hil) ?_
    refine W.ld (vE hx) ?_
    refine W.need (ix_ok vC_len (by decide) hil) ?_
    refine W.ld (vE hx) ?_
    refine W.ite_f (by simp; exact ba_refl x.2) ?_
    refine W.ret ⟨_, _, _, ?_, Trim.of [2, 3, 64, 65] [0, 1] (by decide) (by simp) (tr2 rfl), i + 1, ?_, rfl, by omega, rfl⟩
    · omega
    · rw [← wi]; rfl
  · refine W.ret ?_
    refine W.pure (ok36 m.f hf) rfl rfl ?_
    exact W.ret (RetQ.pure rfl rfl)
abbrev gW : ByteArray := ⟨#[103]⟩
def mA : Mg := ⟨2, gW, false, [], 0, 0, 0, [], mt⟩
def mB : Mg := ⟨5, gW, false, [], 1, 2, 0, [], mt⟩
theorem mA_ok : mA.ok := ⟨⟨by decide, by decide⟩, by decide, by decide, by simp [mA], ⟨by decide, by decide⟩, ⟨by decide, by decide⟩, ⟨by decide, by decide⟩, by decide, by simp [mA], by decide⟩
theorem mB_ok : mB.ok := ⟨⟨by decide, by decide⟩, by decide, by decide, by simp [mB], ⟨by decide, by decide⟩, ⟨by decide, by decide⟩, ⟨by decide, by decide⟩, by decide, by simp [mB], by decide⟩
theorem encg : encT gW = [1, 103] := by
  unfold encT
  rw [show gW.size = 1 from rfl, enc_small (by decide)]
  rfl
theorem mA_b : bytesM mA = [4, 1, 103] := by
  rw [bytesM_k2 (by decide) (by decide), show mA.g = gW from rfl, encg, show zz mA.k = 4 from rfl, enc_small (by decide)]
  rfl
theorem mB_b : bytesM mB = [10, 1, 103, 2, 4] := by
  rw [bytesM_k5 rfl, show mB.g = gW from rfl, encg, show zz mB.k = 10 from rfl, show zz mB.p = 2 from rfl, show zz mB.q = 4 from rfl, enc_small (by decide), enc_small (by decide), enc_small (by decide)]
  rfl
theorem gW_l : (gW.toList == mt.toList) = false := by rw [ByteArray.toList_eq, ByteArray.toList_eq]; rfl
theorem mA_c : checkB mA = 0 := by
  unfold checkB plainB mA
  simp only [gW_l, toList_beq]
  rfl
theorem mB_c : checkB mB = 0 := by
  unfold checkB plainB mB
  simp only [gW_l, toList_beq]
  rfl
theorem bytes_ok {m : Mg} (h : checkB m = 0) (hl : (bytesM m).length ≤ 1970) : bytes m = (bA (bytesM m), 0) := by
  unfold bytes; rw [if_neg (by omega), if_neg (by omega)]
set_option maxHeartbeats 4000000 in
theorem ok9 : Go.Am.Pure Tryd.prog 9 [] (bI true) := by
  refine CallOk.of tysOk mixed od9 Tryd.func9 rfl rfl code9 ?_
  have k1 := ok6 mA mA_ok
  have k2 := ok6 mB mB_ok
  have k3 := ok14 (bA (bytesM mA)) (by rw [mA_b]; decide)
  rw [bytes_ok mA_c (by rw [mA_b]; decide)] at k1
  rw [bytes_ok mB_c (by rw [mB_b]; decide)] at k2
  rw [readM_ok mA_c mA_ok (by rw [mA_b]; decide)] at k3
  rw [mA_b] at k1 k3
  rw [mB_b] at k2
  refine W.pure (CallOk.softA (args := [.d (.agg [nI 2, sD gW, .lit (.bool false), nilD, nI 0, nI 0, nI 0, nilD, sD mt])]) k1) rfl rfl ?_
  refine W.pure (CallOk.softA (args := [.d (.agg [nI 5, sD gW, .lit (.bool false), nilD, nI 1, nI 2, nI 0, nilD, sD mt])]) k2) rfl rfl ?_
  refine W.pure k3 rfl rfl ?_
  have e1 : ((bA [4, 1, 103]).toList == (bA [4, 1, 103]).toList) = true := toList_beq _
  have e2 : ((bA [10, 1, 103, 2, 4]).toList == (bA [10, 1, 103, 2, 4]).toList) = true := toList_beq _
  repeat (first | refine W.ite_t rfl ?_ | refine W.ite_f rfl ?_ | refine W.ite_t e1 ?_ | refine W.ite_t e2 ?_)
  exact W.ret (RetQ.pure rfl rfl)
end Go.Proofs.YtkdibdlbigmkcaaDoor.Ms
