import Derived.Test.YtkdibdlbigmkcaaDoorMC
set_option maxRecDepth 100000
set_option linter.unusedVariables false
set_option linter.unusedSimpArgs false
/- Layer 15: the bytes of messages. -/
namespace Go.Proofs.YtkdibdlbigmkcaaDoor.Ms
open Go Go.Am Co
def od6 : Ords := []
theorem code6 : codeB Tryd.f6.ntmps od6 (match Tryd.f6.body with | some c => c | none => .skip) = true := by kernel_rfl
/-! ### a writer among other blocks -/
theorem subL_ds {σ : Store} {ρ : Nat → Option Nat} : ∀ (r : List D), AV.subL σ ρ (r.map .d) = r.map .d
  | [] => rfl
  | a :: r => by simp only [List.map_cons, AV.subL, AV.sub]; rw [subL_ds r]
theorem mergeGo_far {T : List Nat} (σ1 : Store) (n : Nat) : ∀ (k : Nat) (σ : Store), (∀ j, k ≤ j → j ∉ T) → mergeGo T σ1 n k σ = σ
  | _, [], _ => rfl
  | k, c :: r, h => by
    simp only [mergeGo]
    rw [idx_none (h k (Nat.le_refl _)), mergeGo_far σ1 n (k + 1) r fun j hj => h j (by omega)]
abbrev bS (c : List AV) (bs : List UInt8) (rest : Store) : Store := .var c :: .var [.vec 2 bs.length] :: .vec 1 bs.length (bc bs) :: rest
theorem W.wr {f : FuncId} {r : List D} {c : List AV} {bs bs' : List UInt8} {rest : Store} {x : AV} {k : AV → Store → Res} {Q : AExit → Fr → Store → Prop} (h : CallOk Tryd.prog f (.ptr 0 0 :: r.map .d) (wS bs) (fun v s => v = x ∧ s = wS bs')) (hx : x.closed = true) (hb : bs ≠ []) (hb' : bs' ≠ [])
    (hk : W Tryd.prog (k x (bS c bs' rest)) Q) : W Tryd.prog (.call f (.ptr 1 0 :: r.map .d) (bS c bs rest) [] k) Q := by
  rw [wS_ne hb, wS_ne hb'] at h
  refine W.callT [1, 2] h (by decide) rfl rfl ?_ rfl ?_
  · show _ :: AV.subL _ _ (r.map .d) = _
    rw [subL_ds]; rfl
  · rintro v s ⟨rfl, rfl⟩
    have : mergeS (bS c bs rest) [1, 2] [.var [.vec 1 bs'.length], .vec 1 bs'.length (bc bs')] = bS c bs' rest := by
      unfold mergeS
      show (.var c :: .var [.vec 2 bs'.length] :: .vec 1 bs'.length (bc bs') :: mergeGo [1, 2] _ _ 3 rest) ++ [] = _
      rw [mergeGo_far _ _ 3 rest (by intro j hj; simp; omega), List.append_nil]
    rw [this, closed_sub hx]
    exact hk
/-! ### bytes -/
def encV (x : Vl) : List UInt8 := enc (zz x.1) ++ encT x.2
def nF (m : Mg) : Int := if m.any then -1 else m.f.length
/-- A message's bytes. -/
def bytesM (m : Mg) : List UInt8 :=
  (enc (zz m.k) ++ encT m.g) ++
    (if m.k = 1 then enc (zz (nF m)) ++ m.f.flatMap encT
     else if m.k = 3 ∨ m.k = 4 ∨ m.k = 5 then (enc (zz m.p) ++ enc (zz m.q)) ++ (if m.k = 5 then [] else enc (zz m.h) ++ enc (zz m.v.length) ++ m.v.flatMap encV ++ encT m.t)
     else [])
abbrev bA (l : List UInt8) : ByteArray := ⟨l.toArray⟩
def R64 (n : Int) : Prop := -9223372036854775808 ≤ n ∧ n < 9223372036854775808
/-- A message as laws have it. -/
structure Mg.ok (m : Mg) : Prop where
  k : R64 m.k
  g : m.g.size ≤ 1000000
  f : m.f.length ≤ 1000
  fs : ∀ s ∈ m.f, s.size ≤ 1000000
  p : R64 m.p
  q : R64 m.q
  h : R64 m.h
  v : m.v.length ≤ 1000
  vs : ∀ x ∈ m.v, R64 x.1 ∧ x.2.size ≤ 1000000
  t : m.t.size ≤ 1000000
theorem app_ne {a b : List UInt8} (h : a ≠ []) : a ++ b ≠ [] := fun e => h (List.append_eq_nil_iff.1 e).1
theorem encT_ne (s : ByteArray) : encT s ≠ [] := by have := enc_ne s.size; unfold encT; simp_all
theorem encT_len {s : ByteArray} (h : s.size ≤ 1000000) : (encT s).length ≤ 1000010 := by
  have := enc_len10 (n := s.size) (by omega)
  have hl : s.data.toList.length = s.size := by simp
  simp only [encT, List.length_append, hl]; omega
theorem flat_len {α : Type} {c : α → List UInt8} {b : Nat} : ∀ {l : List α}, (∀ x ∈ l, (c x).length ≤ b) → (l.flatMap c).length ≤ b * l.length
  | [], _ => by simp
  | x :: r, h => by
    have := flat_len (c := c) (b := b) (l := r) fun y hy => h y (by simp [hy])
    have := h x (by simp)
    simp only [List.flatMap_cons, List.length_append, List.length_cons, Nat.mul_add]
    omega
theorem flat_next {α : Type} {c : α → List UInt8} {l : List α} {i : Nat} {x : α} (h : l[i]? = some x) : (l.take (i + 1)).flatMap c = (l.take i).flatMap c ++ c x := by
  rw [List.take_add_one, h]
  simp
def bytes (m : Mg) : ByteArray × Int := if checkB m ≠ 0 then (mt, checkB m) else if (bytesM m).length > 1970 then (mt, 4) else (bA (bytesM m), 0)
theorem checkB_cases (m : Mg) : checkB m = 0 ∨ checkB m = 1 ∨ checkB m = 11 := by
  unfold checkB
  generalize ((m.g.toList == mt.toList) || decide ((m.g.size : Int) > 40)) = b1
  generalize (((m.k != 1) && (m.any || decide ((m.f.length : Int) > 0))) || ((m.k != 3) && (m.h != 0))) = b2
  generalize (m.k == 1) = b3
  generalize ((m.any && decide ((m.f.length : Int) > 0)) || decide ((m.f.length : Int) > 16)) = b4
  generalize plainB m = b5
  generalize (m.k == 2) = b6
  generalize ((m.k == 5) && (decide ((m.v.length : Int) > 0) || !(m.t.toList == mt.toList))) = b7
  generalize ((m.k == 5) || (m.k == 3) || (m.k == 4)) = b8
  generalize (decide (m.p < 0) || decide (m.p ≥ 32) || decide (m.q < 1) || decide (m.q > 1073741824) || decide (m.h < 0) || decide (m.h > 65)) = b9
  generalize decide ((m.v.length : Int) > 4) = b10
  cases b1 <;> cases b2 <;> cases b3 <;> cases b4 <;> cases b5 <;> cases b6 <;> cases b7 <;> cases b8 <;> cases b9 <;> cases b10 <;> simp
/-- What a message that is right is like. -/
structure Good (m : Mg) : Prop where
  g : (m.g.toList == mt.toList) = false ∧ m.g.size ≤ 40
  k : m.k = 1 ∨ m.k = 2 ∨ m.k = 3 ∨ m.k = 4 ∨ m.k = 5
  n1 : m.k ≠ 1 → m.any = false ∧ m.f = []
  n3 : m.k ≠ 3 → m.h = 0
  k1 : m.k = 1 → (m.any = true → m.f = []) ∧ m.f.length ≤ 16
  k12 : m.k = 1 ∨ m.k = 2 → plainB m = true
  k5 : m.k = 5 → m.v = [] ∧ (m.t.toList == mt.toList) = true
  k345 : m.k = 3 ∨ m.k = 4 ∨ m.k = 5 → (0 ≤ m.p ∧ m.p < 32 ∧ 1 ≤ m.q ∧ m.q ≤ 1073741824 ∧ 0 ≤ m.h ∧ m.h ≤ 65) ∧ m.v.length ≤ 4
theorem nil_of_len {α : Type} {l : List α} (h : ¬ (l.length : Int) > 0) : l = [] := List.eq_nil_of_length_eq_zero (by omega)
theorem good_of {m : Mg} (h : checkB m = 0) : Good m := by
  unfold checkB at h
  cases c1 : ((m.g.toList == mt.toList) || decide ((m.g.size : Int) > 40)) with
  | true => rw [c1] at h; simp at h
  | false =>
  rw [c1] at h
  simp only [cond_false] at h
  rw [Bool.or_eq_false_iff, decide_eq_false_iff_not] at c1
  cases c2 : (((m.k != 1) && (m.any || decide ((m.f.length : Int) > 0))) || ((m.k != 3) && (m.h != 0))) with
  | true => rw [c2] at h; simp at h
  | false =>
  rw [c2] at h
  simp only [cond_false] at h
  rw [Bool.or_eq_false_iff] at c2
  have n1 : m.k ≠ 1 → m.any = false ∧ m.f = [] := fun hk => by
    have h1 := c2.1
    rw [show (m.k != 1) = true from by simpa using hk, Bool.true_and, Bool.or_eq_false_iff, decide_eq_false_iff_not] at h1
    exact ⟨h1.1, nil_of_len h1.2⟩
  have n3 : m.k ≠ 3 → m.h = 0 := fun hk => by
    have h1 := c2.2
    rw [show (m.k != 3) = true from by simpa using hk, Bool.true_and] at h1
    simpa using h1
  have hg : (m.g.toList == mt.toList) = false ∧ m.g.size ≤ 40 := ⟨c1.1, by omega⟩
  cases k1 : (m.k == 1) with
  | true =>
    have hk : m.k = 1 := by simpa using k1
    rw [k1] at h
    simp only [cond_true] at h
    cases c3 : ((m.any && decide ((m.f.length : Int) > 0)) || decide ((m.f.length : Int) > 16)) with
    | true => rw [c3] at h; simp at h
    | false =>
    rw [c3] at h
    simp only [cond_false] at h
    rw [Bool.or_eq_false_iff, decide_eq_false_iff_not] at c3
    cases c4 : plainB m with
    | false => rw [c4] at h; simp at h
    | true =>
    refine ⟨hg, .inl hk, n1, n3, fun _ => ⟨fun ha => ?_, by omega⟩, fun _ => c4, fun h5 => by omega, fun h5 => by omega⟩
    have h1 := c3.1
    rw [ha, Bool.true_and, decide_eq_false_iff_not] at h1
    exact nil_of_len h1
  | false =>
  have hk1 : m.k ≠ 1 := by simpa using k1
  rw [k1] at h
  simp only [cond_false] at h
  cases k2 : (m.k == 2) with
  | true =>
    have hk : m.k = 2 := by simpa using k2
    rw [k2] at h
    simp only [cond_true] at h
    cases c4 : plainB m with
    | false => rw [c4] at h; simp at h
    | true => exact ⟨hg, .inr (.inl hk), n1, n3, fun h1 => absurd h1 hk1, fun _ => c4, fun h5 => by omega, fun h5 => by omega⟩
  | false =>
  have hk2 : m.k ≠ 2 := by simpa using k2
  rw [k2] at h
  simp only [cond_false] at h
  cases c5 : ((m.k == 5) && (decide ((m.v.length : Int) > 0) || !(m.t.toList == mt.toList))) with
  | true => rw [c5] at h; simp at h
  | false =>
  rw [c5] at h
  simp only [cond_false] at h
  cases c6 : ((m.k == 5) || (m.k == 3) || (m.k == 4)) with
  | false => rw [c6] at h; simp at h
  | true =>
  rw [c6] at h
  simp only [cond_true] at h
  cases c7 : (decide (m.p < 0) || decide (m.p ≥ 32) || decide (m.q < 1) || decide (m.q > 1073741824) || decide (m.h < 0) || decide (m.h > 65)) with
  | true => rw [c7] at h; simp at h
  | false =>
  rw [c7] at h
  simp only [cond_false] at h
  cases c8 : decide ((m.v.length : Int) > 4) with
  | true => rw [c8] at h; simp at h
  | false =>
  simp only [Bool.or_eq_false_iff, decide_eq_false_iff_not] at c7 c8
  simp only [Bool.or_eq_true, beq_iff_eq] at c6
  refine ⟨hg, by omega, n1, n3, fun h1 => absurd h1 hk1, fun h1 => by omega, fun h5 => ?_, fun _ => ⟨by omega, by omega⟩⟩
  rw [show (m.k == 5) = true from by simpa using h5, Bool.true_and, Bool.or_eq_false_iff, decide_eq_false_iff_not] at c5
  exact ⟨nil_of_len c5.1, by simpa using c5.2⟩
theorem plain_of {m : Mg} (h : plainB m = true) : m.p = 0 ∧ m.q = 0 ∧ m.h = 0 ∧ m.v = [] ∧ (m.t.toList == mt.toList) = true := by
  unfold plainB at h
  simp only [Bool.and_eq_true, beq_iff_eq] at h
  exact ⟨h.1.1.1.1, h.1.1.1.2, h.1.1.2, List.eq_nil_of_length_eq_zero (by have := h.1.2; omega), by simpa using h.2⟩
theorem take_next {α : Type} {l : List α} {i : Nat} {x : α} (h : l[i]? = some x) : l.take (i + 1) = l.take i ++ [x] := by rw [List.take_add_one, h]; rfl
theorem wrapS {i : Nat} (h : i < 1000000000) : IntKind.i64.wrap ((i : Int) + 1) = ((i + 1 : Nat) : Int) := by rw [wrap64 (by omega) (by omega)]; omega
theorem tr3 {T : List Nat} {n : Nat} (h : n = 3) : ∀ i, i < n → (0 :: 1 :: 2 :: T)[i]? = some i := fun i hi => by
  have : i = 0 ∨ i = 1 ∨ i = 2 := by omega
  rcases this with rfl | rfl | rfl <;> rfl
abbrev mgC (m : Mg) : List AV := [.d (nI m.k), .d (sD m.g), .d (.lit (.bool m.any)), slS m.f, .d (nI m.p), .d (nI m.q), .d (nI m.h), slV m.v, .d (sD m.t)]
set_option maxHeartbeats 16000000 in
theorem ok6 (m : Mg) (ho : m.ok) : Go.Am.Pure Tryd.prog 6 [mgG m] (.tuple [.d (sD (bytes m).1), .d (errC (bytes m).2)]) := by
  refine CallOk.of tysOk mixed od6 Tryd.func6 rfl rfl code6 ?_
  have kc := ok11 m
  unfold bytes
  rcases checkB_cases m with hc | hc | hc
  case inr.inl =>
    rw [hc] at kc
    rw [if_pos (by omega), hc]
    refine W.pure kc rfl rfl ?_
    repeat (first | refine W.ite_t rfl ?_ | refine W.ite_f rfl ?_)
    exact W.ret (RetQ.pure rfl rfl)
  case inr.inr =>
    rw [hc] at kc
    rw [if_pos (by omega), hc]
    refine W.pure kc rfl rfl ?_
    repeat (first | refine W.ite_t rfl ?_ | refine W.ite_f rfl ?_)
    exact W.ret (RetQ.pure rfl rfl)
  case inl =>
  rw [hc] at kc
  rw [if_neg (by omega)]
  refine W.pure kc rfl rfl ?_
  repeat (first | refine W.ite_t rfl ?_ | refine W.ite_f rfl ?_)
  have z1 := enc_len10 (zz_lt ho.k.1 ho.k.2)
  have t1 := encT_len ho.g
  have w1 := ok18 [] m.k ho.k.1 ho.k.2 (by decide)
  rw [List.nil_append, wS_ne (enc_ne _)] at w1
  have ne1 := enc_ne (zz m.k)
  have w2 := ok19 (enc (zz m.k)) m.g (by have := ho.g; omega)
  have ne2 : enc (zz m.k) ++ encT m.g ≠ [] := by simp [ne1]
  refine W.callF [1] (bS (mgC m) (enc (zz m.k)) []) (x2 := .tuple []) w1 (by decide) rfl rfl rfl rfl rfl rfl ?_
  refine W.wr (r := [sD m.g]) w2 rfl ne1 ne2 ?_
  have hbd : (enc (zz m.k) ++ encT m.g).length ≤ 1000020 := by simp only [List.length_append]; omega
  have hB : bytesM m = (enc (zz m.k) ++ encT m.g) ++ (if m.k = 1 then enc (zz (nF m)) ++ m.f.flatMap encT else if m.k = 3 ∨ m.k = 4 ∨ m.k = 5 then (enc (zz m.p) ++ enc (zz m.q)) ++ (if m.k = 5 then [] else enc (zz m.h) ++ enc (zz m.v.length) ++ m.v.flatMap encV ++ encT m.t) else []) := rfl
  generalize enc (zz m.k) ++ encT m.g = b0 at *
  by_cases hk1 : m.k = 1
  · have f1 : (m.k == 1) = true := by simpa using hk1
    have hnF : R64 (nF m) := by have := ho.f; unfold nF R64; split <;> omega
    have w3 := ok18 b0 (nF m) hnF.1 hnF.2 (by omega)
    have ne3 : b0 ++ enc (zz (nF m)) ≠ [] := by simp [ne2]
    have z3 := enc_len10 (zz_lt hnF.1 hnF.2)
    rw [if_pos hk1, ← List.append_assoc] at hB
    have hb1 : (b0 ++ enc (zz (nF m))).length ≤ 1000040 := by simp only [List.length_append]; omega
    cases ha : m.any
    all_goals
      have hn : nF m = (if m.any = true then -1 else (m.f.length : Int)) := by unfold nF; cases m.any <;> rfl
      rw [ha] at hn
      simp only [Bool.false_eq_true, if_false, if_true] at hn
      rw [hn] at w3 ne3 hB hb1
      repeat (first | refine W.ite_t f1 ?_ | refine W.ite_t ha ?_ | refine W.ite_f ha ?_ | refine W.ite_t rfl ?_ | refine W.ite_f rfl ?_)
      refine W.wr (r := [nI _]) w3 rfl ne2 ne3 ?_
      generalize hb1e : b0 ++ enc (zz _) = b1 at *
      refine W.loop (fun k fr σ => ∃ i : Nat, fr = [(5, .ptr 1 0), (35, slS m.f), (36, .d (nI m.f.length)), (37, .d (nI i))] ∧ σ = bS (mgC m) (b1 ++ (m.f.take i).flatMap encT) [] ∧ i ≤ m.f.length ∧ k = m.f.length - i) m.f.length
        (Start.of [5, 35, 36, 37] [] (by simp)) ⟨0, rfl, by rw [List.take_zero, List.flatMap_nil, List.append_nil]; rfl, by omega, rfl⟩ ?_
      rintro k fr σ ⟨i, rfl, rfl, hi, rfl⟩
      have hfl := flat_len (c := encT) (b := 1000010) (l := m.f.take i) fun x hx => encT_len (ho.fs x (List.mem_of_mem_take hx))
      have hti : (m.f.take i).length = i := by simp; omega
      have hfm := ho.f
      refine W.ite (fun c1 => ?_) (fun c1 => ?_)
      · have hil : i < m.f.length := by have := of_decide_eq_true c1; omega
        obtain ⟨s, hs⟩ : ∃ s, m.f[i]? = some s := ⟨_, List.getElem?_eq_getElem hil⟩
        have hsz := ho.fs s (List.mem_of_getElem? hs)
        have hlen : (b1 ++ (m.f.take i).flatMap encT).length ≤ 1100000000 := by simp only [List.length_append]; rw [hti] at hfl; omega
        have w4 := ok19 (b1 ++ (m.f.take i).flatMap encT) s (by omega)
        refine W.need (ix_ok sC_len (by decide) hil) ?_
        refine W.ld (sE hs) ?_
        refine W.wr (r := [sD s]) w4 rfl (by simp [ne3]) (by simp [ne3]) ?_
        refine W.ret ⟨_, _, _, ?_, Trim.of [5, 35, 36, 37] [0, 1, 2] (by decide) (by simp) (tr3 rfl), i + 1, ?_, ?_, by omega, rfl⟩
        · omega
        · rw [← wrapS (by omega)]; rfl
        · rw [flat_next hs, ← List.append_assoc]; rfl
      · have hil : i = m.f.length := by have := of_decide_eq_false c1; omega
        subst hil
        rw [List.take_length]
        have hbm := hB
        have ne4 : b1 ++ m.f.flatMap encT ≠ [] := by simp [ne3]
        refine W.ret ?_
        have wB := ok20 (b1 ++ m.f.flatMap encT)
        refine W.wr (r := []) wB rfl ne4 ne4 ?_
        cases hl : decide ((((b1 ++ m.f.flatMap encT).length : Nat) : Int) > 1970) with
        | true =>
          have pl := of_decide_eq_true hl
          rw [if_pos (by rw [hbm]; omega)]
          repeat (first | refine W.ite_t hl ?_ | refine W.ite_t rfl ?_ | refine W.ite_f rfl ?_)
          refine W.pure (ok21 4) rfl rfl ?_
          exact W.ret (RetQ.pure rfl rfl)
        | false =>
          have pl := of_decide_eq_false hl
          rw [if_neg (by rw [hbm]; omega)]
          repeat (first | refine W.ite_f hl ?_ | refine W.ite_t rfl ?_ | refine W.ite_f rfl ?_)
          refine W.ret (RetQ.pure rfl ?_)
          rw [hbm]
          rfl
  by_cases hk2 : m.k = 2
  · have f1 : (m.k == 1) = false := by simpa using hk1
    have f3 : (m.k == 3) = false := by rw [hk2]; rfl
    have f4 : (m.k == 4) = false := by rw [hk2]; rfl
    have f5 : (m.k == 5) = false := by rw [hk2]; rfl
    have hbm : bytesM m = b0 := by rw [hB, if_neg hk1, if_neg (by omega), List.append_nil]
    repeat (first | refine W.ite_f f1 ?_ | refine W.ite_f f3 ?_ | refine W.ite_f f4 ?_ | refine W.ite_f f5 ?_ | refine W.ite_t rfl ?_ | refine W.ite_f rfl ?_)
    have wB := ok20 (b0)
    refine W.wr (r := []) wB rfl ne2 ne2 ?_
    cases hl : decide ((((b0).length : Nat) : Int) > 1970) with
    | true =>
      have pl := of_decide_eq_true hl
      rw [if_pos (by rw [hbm]; omega)]
      repeat (first | refine W.ite_t hl ?_ | refine W.ite_t rfl ?_ | refine W.ite_f rfl ?_)
      refine W.pure (ok21 4) rfl rfl ?_
      exact W.ret (RetQ.pure rfl rfl)
    | false =>
      have pl := of_decide_eq_false hl
      rw [if_neg (by rw [hbm]; omega)]
      repeat (first | refine W.ite_f hl ?_ | refine W.ite_t rfl ?_ | refine W.ite_f rfl ?_)
      refine W.ret (RetQ.pure rfl ?_)
      rw [hbm]
      rfl
  have hG := good_of hc
  have hk345 : m.k = 3 ∨ m.k = 4 ∨ m.k = 5 := by have := hG.k; omega
  rw [if_neg hk1, if_pos hk345] at hB
  have f1 : (m.k == 1) = false := by simpa using hk1
  have z3 := enc_len10 (zz_lt ho.p.1 ho.p.2)
  have z4 := enc_len10 (zz_lt ho.q.1 ho.q.2)
  have w3 := ok18 b0 m.p ho.p.1 ho.p.2 (by omega)
  have ne3 : b0 ++ enc (zz m.p) ≠ [] := by simp [ne2]
  have w4 := ok18 (b0 ++ enc (zz m.p)) m.q ho.q.1 ho.q.2 (by simp only [List.length_append]; omega)
  have ne4 : b0 ++ enc (zz m.p) ++ enc (zz m.q) ≠ [] := by simp [ne2]
  have hb2 : (b0 ++ enc (zz m.p) ++ enc (zz m.q)).length ≤ 1000060 := by simp only [List.length_append]; omega
  rw [← List.append_assoc, ← List.append_assoc] at hB
  by_cases hk5 : m.k = 5
  · have f3 : (m.k == 3) = false := by rw [hk5]; rfl
    have f4 : (m.k == 4) = false := by rw [hk5]; rfl
    have f5 : (m.k == 5) = true := by rw [hk5]; rfl
    have hbm : bytesM m = b0 ++ enc (zz m.p) ++ enc (zz m.q) := by rw [hB, if_pos hk5, List.append_nil]
    repeat (first | refine W.ite_f f1 ?_ | refine W.ite_f f3 ?_ | refine W.ite_f f4 ?_ | refine W.ite_t f5 ?_ | refine W.ite_t rfl ?_ | refine W.ite_f rfl ?_)
    refine W.wr (r := [nI m.p]) w3 rfl ne2 ne3 ?_
    refine W.wr (r := [nI m.q]) w4 rfl ne3 ne4 ?_
    repeat (first | refine W.ite_t f5 ?_ | refine W.ite_t rfl ?_ | refine W.ite_f rfl ?_)
    have wB := ok20 (b0 ++ enc (zz m.p) ++ enc (zz m.q))
    refine W.wr (r := []) wB rfl ne4 ne4 ?_
    cases hl : decide ((((b0 ++ enc (zz m.p) ++ enc (zz m.q)).length : Nat) : Int) > 1970) with
    | true =>
      have pl := of_decide_eq_true hl
      rw [if_pos (by rw [hbm]; omega)]
      repeat (first | refine W.ite_t hl ?_ | refine W.ite_t rfl ?_ | refine W.ite_f rfl ?_)
      refine W.pure (ok21 4) rfl rfl ?_
      exact W.ret (RetQ.pure rfl rfl)
    | false =>
      have pl := of_decide_eq_false hl
      rw [if_neg (by rw [hbm]; omega)]
      repeat (first | refine W.ite_f hl ?_ | refine W.ite_t rfl ?_ | refine W.ite_f rfl ?_)
      refine W.ret (RetQ.pure rfl ?_)
      rw [hbm]
      rfl
  rw [if_neg hk5] at hB
  have f5 : (m.k == 5) = false := by simpa using hk5
  generalize b0 ++ enc (zz m.p) = b1 at *
  generalize b1 ++ enc (zz m.q) = b2 at *
  have hR := (hG.k345 hk345).1
  have hv4 := (hG.k345 hk345).2
  have hhr : R64 m.h := ⟨by omega, by omega⟩
  have hvr : R64 (m.v.length : Int) := ⟨by omega, by omega⟩
  have z5 := enc_len10 (zz_lt hhr.1 hhr.2)
  have z6 := enc_len10 (zz_lt hvr.1 hvr.2)
  have w5 := ok18 b2 m.h hhr.1 hhr.2 (by omega)
  have ne5 : b2 ++ enc (zz m.h) ≠ [] := by simp [ne4]
  have w6 := ok18 (b2 ++ enc (zz m.h)) m.v.length hvr.1 hvr.2 (by simp only [List.length_append]; omega)
  have ne6 : b2 ++ enc (zz m.h) ++ enc (zz m.v.length) ≠ [] := by simp [ne4]
  have hb3 : (b2 ++ enc (zz m.h) ++ enc (zz m.v.length)).length ≤ 1000090 := by simp only [List.length_append]; omega
  rw [← List.append_assoc, ← List.append_assoc, ← List.append_assoc] at hB
  have hk34 : ((m.k == 3) = true) ∨ ((m.k == 3) = false ∧ (m.k == 4) = true) := by
    rcases hk345 with h | h | h
    · left; rw [h]; rfl
    · right; rw [h]; exact ⟨rfl, rfl⟩
    · exact absurd h hk5
  rcases hk34 with f3 | ⟨f3, f4⟩
  all_goals
    repeat (first | refine W.ite_f f1 ?_ | refine W.ite_t f3 ?_ | refine W.ite_f f3 ?_ | refine W.ite_t f4 ?_ | refine W.ite_t rfl ?_ | refine W.ite_f rfl ?_)
    refine W.wr (r := [nI m.p]) w3 rfl ne2 ne3 ?_
    refine W.wr (r := [nI m.q]) w4 rfl ne3 ne4 ?_
    repeat (first | refine W.ite_f f5 ?_ | refine W.ite_t rfl ?_ | refine W.ite_f rfl ?_)
    refine W.wr (r := [nI m.h]) w5 rfl ne4 ne5 ?_
    refine W.wr (r := [nI _]) w6 rfl ne5 ne6 ?_
    generalize b2 ++ enc (zz m.h) ++ enc (zz m.v.length) = b3 at *
    refine W.loop (fun k fr σ => ∃ i : Nat, fr = [(1, .ptr 0 0), (5, .ptr 1 0), (67, slV m.v), (68, .d (nI m.v.length)), (69, .d (nI i))] ∧ σ = bS (mgC m) (b3 ++ (m.v.take i).flatMap encV) [] ∧ i ≤ m.v.length ∧ k = m.v.length - i) m.v.length
      (Start.of [1, 5, 67, 68, 69] [] (by simp)) ⟨0, rfl, by rw [List.take_zero, List.flatMap_nil, List.append_nil]; rfl, by omega, rfl⟩ ?_
    rintro k fr σ ⟨i, rfl, rfl, hi, rfl⟩
    have hfl := flat_len (c := encV) (b := 1000020) (l := m.v.take i) fun x hx => by
      have h1 := ho.vs x (List.mem_of_mem_take hx)
      have := enc_len10 (zz_lt h1.1.1 h1.1.2)
      have := encT_len h1.2
      simp only [encV, List.length_append]; omega
    have hti : (m.v.take i).length = i := by simp; omega
    have hlen : (b3 ++ (m.v.take i).flatMap encV).length ≤ 100000000 := by simp only [List.length_append]; rw [hti] at hfl; omega
    have ne7 : b3 ++ (m.v.take i).flatMap encV ≠ [] := by simp [ne6]
    refine W.ite (fun c1 => ?_) (fun c1 => ?_)
    · have hil : i < m.v.length := by have := of_decide_eq_true c1; omega
      obtain ⟨x, hx⟩ : ∃ x, m.v[i]? = some x := ⟨_, List.getElem?_eq_getElem hil⟩
      have hxo := ho.vs x (List.mem_of_getElem? hx)
      have z7 := enc_len10 (zz_lt hxo.1.1 hxo.1.2)
      have w7 := ok18 (b3 ++ (m.v.take i).flatMap encV) x.1 hxo.1.1 hxo.1.2 (by omega)
      have ne8 : b3 ++ (m.v.take i).flatMap encV ++ enc (zz x.1) ≠ [] := by simp [ne6]
      have w8 := ok19 (b3 ++ (m.v.take i).flatMap encV ++ enc (zz x.1)) x.2 (by simp only [List.length_append] at *; omega)
      refine W.need (ix_ok vC_len (by decide) hil) ?_
      refine W.ld (vE hx) ?_
      refine W.wr (r := [nI x.1]) (rest := [.var [.d (nI x.1), .d (sD x.2)]]) w7 rfl ne7 ne8 ?_
      refine W.wr (r := [sD x.2]) (rest := [.var [.d (nI x.1), .d (sD x.2)]]) w8 rfl ne8 (app_ne ne8) ?_
      refine W.ret ⟨_, _, _, ?_, Trim.of [1, 5, 67, 68, 69] [0, 1, 2] (by decide) (by simp) (tr3 rfl), i + 1, ?_, ?_, by omega, rfl⟩
      · omega
      · rw [← wrapS (by omega)]; rfl
      · rw [flat_next hx, show encV x = enc (zz x.1) ++ encT x.2 from rfl, ← List.append_assoc, ← List.append_assoc]; rfl
    · have hil : i = m.v.length := by have := of_decide_eq_false c1; omega
      subst hil
      rw [List.take_length] at hlen ne7 ⊢
      have w9 := ok19 (b3 ++ m.v.flatMap encV) m.t (by have := ho.t; omega)
      have ne9 : b3 ++ m.v.flatMap encV ++ encT m.t ≠ [] := app_ne ne7
      have hbm := hB
      refine W.ret ?_
      refine W.wr (r := [sD m.t]) w9 rfl ne7 ne9 ?_
      have wB := ok20 (b3 ++ m.v.flatMap encV ++ encT m.t)
      refine W.wr (r := []) wB rfl ne9 ne9 ?_
      cases hl : decide ((((b3 ++ m.v.flatMap encV ++ encT m.t).length : Nat) : Int) > 1970) with
      | true =>
        have pl := of_decide_eq_true hl
        rw [if_pos (by rw [hbm]; omega)]
        repeat (first | refine W.ite_t hl ?_ | refine W.ite_t rfl ?_ | refine W.ite_f rfl ?_)
        refine W.pure (ok21 4) rfl rfl ?_
        exact W.ret (RetQ.pure rfl rfl)
      | false =>
        have pl := of_decide_eq_false hl
        rw [if_neg (by rw [hbm]; omega)]
        repeat (first | refine W.ite_f hl ?_ | refine W.ite_t rfl ?_ | refine W.ite_f rfl ?_)
        refine W.ret (RetQ.pure rfl ?_)
        rw [hbm]
        rfl
end Go.Proofs.YtkdibdlbigmkcaaDoor.Ms
