import Derived.Test.YtpemfjnjkjckoaaDoorLP
import Derived.Test.YtpemfjnjkjckoaaDoorCG0
import Derived.Test.YtpemfjnjkjckoaaDoorCV0
set_option maxRecDepth 100000
set_option linter.unusedVariables false
set_option linter.unusedSimpArgs false
/- Layer 4: the reference. -/
namespace Go.Proofs.YtpemfjnjkjckoaaDoor.Lk
open Go Go.Am Co
def od8 : Ords := []
theorem code8 : codeB Tryd.f8.ntmps od8 (match Tryd.f8.body with | some c => c | none => .skip) = true := by kernel_rfl
def od11 : Ords := []
theorem code11 : codeB Tryd.f11.ntmps od11 (match Tryd.f11.body with | some c => c | none => .skip) = true := by kernel_rfl
def od14 : Ords := []
theorem code14 : codeB Tryd.f14.ntmps od14 (match Tryd.f14.body with | some c => c | none => .skip) = true := by kernel_rfl
def od22 : Ords := []
theorem code22 : codeB Tryd.f22.ntmps od22 (match Tryd.f22.body with | some c => c | none => .skip) = true := by kernel_rfl
def od15 : Ords := []
theorem code15 : codeB Tryd.f15.ntmps od15 (match Tryd.f15.body with | some c => c | none => .skip) = true := by kernel_rfl
def od16 : Ords := []
theorem code16 : codeB Tryd.f16.ntmps od16 (match Tryd.f16.body with | some c => c | none => .skip) = true := by kernel_rfl
abbrev lkD (l : Lk) : List D := [.sl l.q.length (flat sC l.q), nI l.a, nI l.c, .lit (.bool l.o)]
abbrev lkG (l : Lk) : AV := .d (.agg (lkD l))
theorem pk_parts (n c : Int) (s : ByteArray) : bA (enc (zz n)) ++ bA (enc (zz c)) ++ bA (encT s) = pk n c s := by
  rw [bA_append, bA_append]; rfl
theorem ok22 (n c : Int) (s : ByteArray) (hn : -9223372036854775808 ≤ n ∧ n < 9223372036854775808) (hc : -9223372036854775808 ≤ c ∧ c < 9223372036854775808) (hs : s.size ≤ 1000000) :
    Go.Am.Pure Tryd.prog 22 [.d (nI n), .d (nI c), .d (sD s)] (.d (sD (pk n c s))) := by
  refine CallOk.of tysOk mixed od22 Tryd.func22 rfl rfl code22 ?_
  have l1 := enc_len10 (zz_lt hn.1 hn.2)
  have l2 := enc_len10 (zz_lt hc.1 hc.2)
  have l3 := enc_len10 (n := s.size) (by omega)
  have hl : s.data.toList.length = s.size := by simp
  refine W.pure (ok38 n hn.1 hn.2) rfl rfl ?_
  refine W.pure (ok38 c hc.1 hc.2) rfl rfl ?_
  refine W.need (by rw [bA_size, bA_size, maxI]; omega) ?_
  refine W.pure (ok39 s (by omega)) rfl rfl ?_
  refine W.need (by rw [bA_append, bA_size, bA_size, maxI]; simp only [encT, List.length_append, hl]; omega) ?_
  refine W.ret (RetQ.pure rfl ?_)
  show AV.d (sD (bA (enc (zz n)) ++ bA (enc (zz c)) ++ bA (encT s))) = _
  rw [pk_parts]
theorem ok16 (l : Lk) : Go.Am.Pure Tryd.prog 16 [lkG l] (lkG l) := by
  refine CallOk.of tysOk mixed od16 Tryd.func16 rfl rfl code16 ?_
  exact W.ret (RetQ.pure rfl rfl)
theorem ok15 (l : Lk) (h : l.ok) : Go.Am.Pure Tryd.prog 15 [lkG l, lkG l] (bI true) := by
  refine CallOk.of tysOk mixed od15 Tryd.func15 rfl rfl code15 ?_
  have e1 : ((l.a : Int) == (l.a : Int)) = true := beq_self_eq_true _
  have e2 : ((l.c : Int) == (l.c : Int)) = true := beq_self_eq_true _
  have e3 : (l.o == l.o) = true := beq_self_eq_true _
  have hq := h.q
  repeat (first | refine W.ite_t e1 ?_ | refine W.ite_t e2 ?_ | refine W.ite_t e3 ?_ | refine W.ite_t rfl ?_ | refine W.ite_f rfl ?_)
  refine W.pure (ok12 l.q (by omega)) rfl rfl ?_
  repeat (first | refine W.ite_t e1 ?_ | refine W.ite_t e2 ?_ | refine W.ite_t e3 ?_ | refine W.ite_t rfl ?_ | refine W.ite_f rfl ?_)
  exact W.ret (RetQ.pure rfl rfl)
theorem sl_snoc (l : List ByteArray) (s : ByteArray) : D.sl (0 + l.length + 1) ((([] ++ flat sC l) ++ [sD s]).take ((0 + l.length + 1) * 1)) = .sl (l ++ [s]).length (flat sC (l ++ [s])) := by
  rw [Nat.zero_add, List.nil_append, show flat sC l ++ [sD s] = flat sC (l ++ [s]) from by rw [flat_append]; rfl, show l.length + 1 = (l ++ [s]).length from by simp, flat_all sC_len]
theorem ok8 (l : Lk) (h : l.ok) (s : ByteArray) : Go.Am.Pure Tryd.prog 8 [lkG l, .d (sD s)] (.tuple [lkG (push l s).2, .d (nI (push l s).1)]) := by
  refine CallOk.of tysOk mixed od8 Tryd.func8 rfl rfl code8 ?_
  have hq := h.q
  unfold push
  refine W.ite (fun c1 => ?_) (fun c1 => ?_)
  · rw [if_pos (by have := of_decide_eq_true c1; omega)]
    exact W.ret (RetQ.pure rfl rfl)
  rw [if_neg (by have := of_decide_eq_false c1; omega)]
  refine W.ite (fun c2 => ?_) (fun c2 => ?_)
  · rw [if_pos (by have := of_decide_eq_true c2; omega)]
    exact W.ret (RetQ.pure rfl rfl)
  rw [if_neg (by have := of_decide_eq_false c2; omega)]
  have hfl := sl_len l.q
  refine W.need ⟨rfl, rfl, by omega, by omega, by omega, flat_one sC_one l.q⟩ ?_
  refine W.alt_l ?_
  refine W.need ⟨rfl, rfl, rfl, by omega, by omega, by intro c hc; obtain rfl := List.mem_singleton.1 hc; rfl⟩ ?_
  refine W.ret (RetQ.part [] (by decide) (by simp) (by simp) ⟨?_, rfl⟩)
  show AV.tuple [.d (.agg [D.sl (0 + l.q.length + 1) ((([] ++ flat sC l.q) ++ [sD s]).take ((0 + l.q.length + 1) * 1)), nI l.a, nI l.c, .lit (.bool l.o)]), .d (nI 0)] = _
  rw [sl_snoc]
set_option maxHeartbeats 8000000 in
theorem ok11 (l : Lk) (h : l.ok) : Go.Am.Pure Tryd.prog 11 [lkG l] (.tuple [lkG { l with o := false }, slS (packets l)]) := by
  refine CallOk.of tysOk mixed od11 Tryd.func11 rfl rfl code11 ?_
  have hq := h.q
  have ha := h.a
  have hc := h.c
  refine W.loop (fun k fr σ => ∃ (i : Nat) (O : List ByteArray), fr = [(1, .ptr 0 0), (2, .ptr 1 0), (4, .vec 2 O.length), (9, slS l.q), (10, .d (nI l.q.length)), (11, .d (nI i))] ∧ σ = [.var (lkC l), .var (lkC ⟨[], 0, 0, false⟩), .vec 1 O.length (flat sC O)] ∧ O = pks l.c l.a ((l.q.take 8).take i) ∧ i ≤ l.q.length ∧ k = l.q.length - i) l.q.length
    (Start.of [1, 2, 4, 9, 10, 11] [] (by simp)) ⟨0, [], rfl, rfl, rfl, by omega, rfl⟩ ?_
  rintro k fr σ ⟨i, O, rfl, rfl, hO, hi, rfl⟩
  have hOl : O.length = min i (min 8 l.q.length) := by rw [hO, pks_len]; simp
  refine W.ite (fun c1 => ?_) (fun c1 => ?_)
  · have hiq : i < l.q.length := by have := of_decide_eq_true c1; omega
    obtain ⟨s, hs⟩ : ∃ s, l.q[i]? = some s := ⟨_, List.getElem?_eq_getElem hiq⟩
    have hso := h.s s (List.mem_of_getElem? hs)
    have wi : IntKind.i64.wrap ((i : Int) + 1) = ((i + 1 : Nat) : Int) := by rw [wrap64 (by omega) (by omega)]; omega
    refine W.need (ix_ok sC_len (by decide) hiq) ?_
    refine W.ld (sE hs) ?_
    cases h8 : decide ((i : Int) < 8) with
    | true =>
      have p8 := of_decide_eq_true h8
      have kp := ok22 (IntKind.i64.wrap ((l.a : Int) + (i : Int))) l.c s (by rw [wrap64 (by omega) (by omega)]; omega) (by omega) (by omega)
      have wa : IntKind.i64.wrap ((l.a : Int) + (i : Int)) = ((l.a + i : Nat) : Int) := by rw [wrap64 (by omega) (by omega)]; omega
      repeat (first | refine W.ite_t h8 ?_ | refine W.ite_t rfl ?_ | refine W.ite_f rfl ?_)
      refine W.pure kp rfl rfl ?_
      refine W.alt_l ?_
      refine W.need ⟨rfl, rfl, rfl, by omega, by omega, by intro c hc; obtain rfl := List.mem_singleton.1 hc; rfl⟩ ?_
      refine W.ret ⟨_, _, _, ?_, Trim.of [1, 2, 4, 9, 10, 11] [0, 1, 2] (by decide) (by simp) (by intro j hj; have : j = 0 ∨ j = 1 ∨ j = 2 := (by simp at hj; omega); rcases this with rfl | rfl | rfl <;> rfl), i + 1, O ++ [pk ((l.a + i : Nat) : Int) l.c s], ?_, ?_, ?_, by omega, rfl⟩
      · omega
      · rw [← wi, @List.length_append _ O [_]]; rfl
      · rw [flat_append, @List.length_append _ O [_], ← wa]; rfl
      · have hs8 : (l.q.take 8)[i]? = some s := by rw [List.getElem?_take_of_lt (by omega)]; exact hs
        rw [take_next hs8, pks_snoc, ← hO, show ((l.q.take 8).take i).length = i from by simp; omega]
    | false =>
      have p8 := of_decide_eq_false h8
      repeat (first | refine W.ite_f h8 ?_ | refine W.ite_t rfl ?_ | refine W.ite_f rfl ?_)
      refine W.ret ⟨_, _, _, ?_, Trim.of [1, 2, 4, 9, 10, 11] [0, 1, 2] (by decide) (by simp) (by intro j hj; have : j = 0 ∨ j = 1 ∨ j = 2 := (by simp at hj; omega); rcases this with rfl | rfl | rfl <;> rfl), i + 1, O, ?_, rfl, ?_, by omega, rfl⟩
      · omega
      · rw [← wi]; rfl
      · have e1 : (l.q.take 8).take i = l.q.take 8 := List.take_of_length_le (by simp; omega)
        have e2 : (l.q.take 8).take (i + 1) = l.q.take 8 := List.take_of_length_le (by simp; omega)
        rw [hO, e1, e2]
  · have him : i = l.q.length := by have := of_decide_eq_false c1; omega
    subst him
    rw [show (l.q.take 8).take l.q.length = l.q.take 8 from by rw [List.take_take, Nat.min_comm, ← List.take_take, List.take_length]] at hO
    refine W.ret ?_
    cases hz : ((l.q.length : Int) == 0) with
    | true =>
      have hqe : l.q = [] := List.eq_nil_of_length_eq_zero (by have : (l.q.length : Int) = 0 := (by simpa using hz); omega)
      have hOe : O = [] := by rw [hO, hqe]; rfl
      subst hOe
      have hpe : packets l = if l.o then [pk (-1) l.c mt] else [] := by unfold packets; rw [hqe]
      cases ho : l.o with
      | true =>
        rw [ho] at hpe
        repeat (first | refine W.ite_t hz ?_ | refine W.ite_t ho ?_ | refine W.ite_t rfl ?_ | refine W.ite_f rfl ?_)
        refine W.pure (ok22 (-1) l.c mt (by decide) (by omega) (by decide)) rfl rfl ?_
        refine W.alt_l ?_
        refine W.need ⟨rfl, rfl, rfl, by decide, by decide, by intro c hc; obtain rfl := List.mem_singleton.1 hc; rfl⟩ ?_
        refine W.ret (RetQ.part [] (by decide) (by simp) (by simp) ⟨?_, rfl⟩)
        rw [hpe]
        rfl
      | false =>
        rw [ho] at hpe
        repeat (first | refine W.ite_t hz ?_ | refine W.ite_f ho ?_ | refine W.ite_t rfl ?_ | refine W.ite_f rfl ?_)
        refine W.ret (RetQ.part [] (by decide) (by simp) (by simp) ⟨?_, rfl⟩)
        rw [hpe]
        rfl
    | false =>
      have hqe : l.q ≠ [] := fun e => by rw [e] at hz; cases hz
      have hpe : packets l = O := by
        rw [hO]
        unfold packets
        split
        · rename_i e; exact absurd e hqe
        · rfl
      repeat (first | refine W.ite_f hz ?_ | refine W.ite_t rfl ?_ | refine W.ite_f rfl ?_)
      refine W.ret (RetQ.part [] (by decide) (by simp) (by simp) ⟨?_, rfl⟩)
      rw [hpe]
      show AV.tuple [_, .d (.sl O.length ((flat sC O).take (O.length * 1)))] = _
      rw [flat_all sC_len]
      rfl
def takeC (n c : Int) (s : ByteArray) : Int := if n < -1 ∨ c < 0 ∨ (n < 0 ∧ isE s = false) then 11 else 0
def takeE (p : ByteArray) : Int := match rdP p with
  | (_, _, _, some e) => e.2
  | (n, c, s, none) => takeC n c s
theorem isE_size (s : ByteArray) : isE s = decide (¬ s.size > 0) := by
  unfold isE
  have h1 : mt.toList = [] := by rw [ByteArray.toList_eq]
  have hl : s.toList.length = s.size := by rw [ByteArray.toList_eq]; exact Array.length_toList
  rw [h1]
  by_cases h : s.size > 0
  · rw [decide_eq_false (by omega)]
    have : s.toList ≠ [] := fun e => by rw [e] at hl; simp at hl; omega
    simpa using this
  · rw [decide_eq_true h]
    have : s.toList = [] := List.eq_nil_of_length_eq_zero (by omega)
    rw [this]; rfl
abbrev rtA (r : (ByteArray × Bool × D) × Lk) (e : Int) : AV := .tuple [lkG r.2, .d (sD r.1.1), .d (.lit (.bool r.1.2.1)), .d (nI e)]
theorem doneE_okE {s : ByteArray} {a : Nat} {e : Err} (h : okE e) : okE (doneE s a e) := by
  unfold doneE
  split
  · cases e with
    | none => show (11 : Int) ≠ 0; decide
    | some x => exact h
  · exact h
theorem readT_okE {s : ByteArray} {a : Nat} {e : Err} {m : Int} (h : okE e) : okE (readT s a e m).2.2 := by
  have := readN_okE (s := s) (a := a) h
  unfold readT
  generalize readN s a e = N at *
  obtain ⟨n, a', e'⟩ := N
  cases e' with
  | some x => exact this
  | none =>
    dsimp only
    generalize (if 0 > m then 0 else m) = M
    split
    · show (1 : Int) ≠ 0; decide
    · split
      · show (10 : Int) ≠ 0; decide
      · exact True.intro
set_option maxHeartbeats 16000000 in
theorem ok14 (l : Lk) (h : l.ok) (p : ByteArray) (hp : p.size ≤ 1000000) : Go.Am.Pure Tryd.prog 14 [lkG l, .d (sD p)] (rtA (takeL l p) (takeE p)) := by
  refine CallOk.of tysOk mixed od14 Tryd.func14 rfl rfl code14 ?_
  have hq := h.q
  have ha := h.a
  have hc := h.c
  unfold takeL takeE rdP
  refine W.pure (ok28 p) rfl rfl ?_
  have k1 := ok27 p 0 none True.intro (by omega)
  have r1 := readI_le (s := p) (a := 0) (e := none) (by omega)
  have o1 := readI_okE (s := p) (a := 0) (e := none) True.intro
  have q1 := unzz_range (readN_lt p 0 none)
  have q1 : -9223372036854775808 ≤ (readI p 0 none).1 ∧ (readI p 0 none).1 < 9223372036854775808 := q1
  generalize readI p 0 none = N at *
  obtain ⟨n, a1, e1⟩ := N
  refine W.pure k1 rfl rfl ?_
  have k2 := ok27 p a1 e1 o1 (by omega)
  have r2 := readI_le (s := p) (a := a1) (e := e1) r1
  have o2 := readI_okE (s := p) (a := a1) o1
  have q2 := unzz_range (readN_lt p a1 e1)
  have q2 : -9223372036854775808 ≤ (readI p a1 e1).1 ∧ (readI p a1 e1).1 < 9223372036854775808 := q2
  dsimp only
  generalize readI p a1 e1 = C at *
  obtain ⟨c, a2, e2⟩ := C
  refine W.pure k2 rfl rfl ?_
  have k3 := ok29 p a2 e2 2000 o2 (by decide) (by decide) r2 (by omega)
  have o3 := readT_okE (s := p) (a := a2) (m := 2000) o2
  dsimp only
  generalize readT p a2 e2 2000 = S at *
  obtain ⟨s, a3, e3⟩ := S
  refine W.pure k3 rfl rfl ?_
  have k4 := ok30 p a3 e3 o3
  have o4 := doneE_okE (s := p) (a := a3) o3
  dsimp only
  generalize doneE p a3 e3 = E at *
  refine W.pure k4 rfl rfl ?_
  cases E with
  | some e =>
    have he : ((Co.errC (some e)) != 0) = true := by have : e.2 ≠ 0 := o4; simpa [Co.errC] using this
    repeat (first | refine W.ite_t he ?_ | refine W.ite_t rfl ?_ | refine W.ite_f rfl ?_)
    exact W.ret (RetQ.pure rfl rfl)
  | none =>
    repeat (first | refine W.ite_t rfl ?_ | refine W.ite_f rfl ?_)
    dsimp only at q1 q2 ⊢
    unfold takeV takeC
    cases h1 : decide (n < -1) with
    | true =>
      have hb : n < -1 ∨ c < 0 ∨ (n < 0 ∧ isE s = false) := .inl (of_decide_eq_true h1)
      rw [if_pos hb, if_pos hb]
      repeat (first | refine W.ite_t h1 ?_ | refine W.ite_t rfl ?_ | refine W.ite_f rfl ?_)
      exact W.ret (RetQ.pure rfl rfl)
    | false =>
    cases h2 : decide (c < 0) with
    | true =>
      have hb : n < -1 ∨ c < 0 ∨ (n < 0 ∧ isE s = false) := .inr (.inl (of_decide_eq_true h2))
      rw [if_pos hb, if_pos hb]
      repeat (first | refine W.ite_f h1 ?_ | refine W.ite_t h2 ?_ | refine W.ite_t rfl ?_ | refine W.ite_f rfl ?_)
      exact W.ret (RetQ.pure rfl rfl)
    | false =>
    have p1 := of_decide_eq_false h1
    have p2 := of_decide_eq_false h2
    have wd : IntKind.i64.wrap (c - (l.a : Int)) = c - l.a := wrap64 (by omega) (by omega)
    have hcl : c - l.a > 0 → c - l.a ≤ l.q.length → D.sl (0 + (l.q.length - (IntKind.i64.wrap (c - (l.a : Int))).toNat)) (([] ++ (((flat sC l.q).drop ((IntKind.i64.wrap (c - (l.a : Int))).toNat * 1)).take ((l.q.length - (IntKind.i64.wrap (c - (l.a : Int))).toNat) * 1))).take ((0 + (l.q.length - (IntKind.i64.wrap (c - (l.a : Int))).toNat)) * 1)) = .sl (l.q.drop (c - l.a).toNat).length (flat sC (l.q.drop (c - l.a).toNat)) := fun g1 g2 => by
      rw [wd, Nat.zero_add, List.nil_append, flat_drop sC_len, show l.q.length - (c - l.a).toNat = (l.q.drop (c - l.a).toNat).length from by simp, flat_all sC_len, flat_all sC_len]
    have hclN : c - l.a > 0 → c - l.a ≤ l.q.length → (1 : Nat) = 1 ∧ (0 : Nat) = 0 ∧ (l.q.length - (IntKind.i64.wrap (c - (l.a : Int))).toNat) * 1 = (((flat sC l.q).drop ((IntKind.i64.wrap (c - (l.a : Int))).toNat * 1)).take ((l.q.length - (IntKind.i64.wrap (c - (l.a : Int))).toNat) * 1)).length ∧ (0 + (l.q.length - (IntKind.i64.wrap (c - (l.a : Int))).toNat)) * 16 ≤ 140737488355328 ∧ 0 + (l.q.length - (IntKind.i64.wrap (c - (l.a : Int))).toNat) ≤ 9223372036854775807 ∧ ∀ d ∈ (((flat sC l.q).drop ((IntKind.i64.wrap (c - (l.a : Int))).toNat * 1)).take ((l.q.length - (IntKind.i64.wrap (c - (l.a : Int))).toNat) * 1)), d.one = true := fun g1 g2 => by
      refine ⟨rfl, rfl, ?_, by omega, by omega, fun d hd => flat_one sC_one l.q d (List.mem_of_mem_drop (List.mem_of_mem_take hd))⟩
      simp [sl_len]
    have wc : IntKind.i64.wrap ((l.c : Int) + 1) = ((l.c + 1 : Nat) : Int) := by rw [wrap64 (by omega) (by omega)]; omega
    have hE := isE_size s
    cases h3 : (n == -1) with
    | true =>
      have p3 : n = -1 := by simpa using h3
      cases h4 : decide ((s.size : Int) > 0) with
      | true =>
        have p4 := of_decide_eq_true h4
        have hb : n < -1 ∨ c < 0 ∨ (n < 0 ∧ isE s = false) := .inr (.inr ⟨by omega, by rw [hE]; exact decide_eq_false (by omega)⟩)
        rw [if_pos hb, if_pos hb]
        repeat (first | refine W.ite_f h1 ?_ | refine W.ite_f h2 ?_ | refine W.ite_t h3 ?_ | refine W.ite_t h4 ?_ | refine W.ite_t rfl ?_ | refine W.ite_f rfl ?_)
        exact W.ret (RetQ.pure rfl rfl)
      | false =>
        have p4 := of_decide_eq_false h4
        have hb : ¬ (n < -1 ∨ c < 0 ∨ (n < 0 ∧ isE s = false)) := by
          rintro (h | h | ⟨_, h⟩)
          · exact p1 h
          · exact p2 h
          · rw [hE] at h; have := of_decide_eq_false h; omega
        rw [if_neg hb, if_neg hb, if_pos (by omega)]
        cases d1 : decide (c > (l.a : Int)) with
        | false =>
          have g1 := of_decide_eq_false d1
          repeat (first | refine W.ite_f h1 ?_ | refine W.ite_f h2 ?_ | refine W.ite_t h3 ?_ | refine W.ite_f h4 ?_ | refine W.ite_f d1 ?_ | refine W.ite_t rfl ?_ | refine W.ite_f rfl ?_)
          have e : ack l c = l := if_neg (by omega)
          rw [e]
          refine W.ret (RetQ.part [] (by decide) (by simp) (by simp) ⟨?_, rfl⟩)
          rfl
        | true =>
        have g1 := of_decide_eq_true d1
        cases d2 : decide (IntKind.i64.wrap (c - (l.a : Int)) ≤ (l.q.length : Int)) with
        | false =>
          have g2 := of_decide_eq_false d2
          rw [wd] at g2
          repeat (first | refine W.ite_f h1 ?_ | refine W.ite_f h2 ?_ | refine W.ite_t h3 ?_ | refine W.ite_f h4 ?_ | refine W.ite_t d1 ?_ | refine W.ite_f d2 ?_ | refine W.ite_t rfl ?_ | refine W.ite_f rfl ?_)
          have e : ack l c = l := if_neg (by omega)
          rw [e]
          refine W.ret (RetQ.part [] (by decide) (by simp) (by simp) ⟨?_, rfl⟩)
          rfl
        | true =>
          have g2 := of_decide_eq_true d2
          rw [wd] at g2
          repeat (first | refine W.ite_f h1 ?_ | refine W.ite_f h2 ?_ | refine W.ite_t h3 ?_ | refine W.ite_f h4 ?_ | refine W.ite_t d1 ?_ | refine W.ite_t d2 ?_ | refine W.ite_t rfl ?_ | refine W.ite_f rfl ?_)
          refine W.need (by rw [wd]; omega) ?_
          refine W.need (hclN (by omega) (by omega)) ?_
          repeat (first | refine W.ite_f h1 ?_ | refine W.ite_f h2 ?_ | refine W.ite_t h3 ?_ | refine W.ite_f h4 ?_ | refine W.ite_t d1 ?_ | refine W.ite_t d2 ?_ | refine W.ite_t rfl ?_ | refine W.ite_f rfl ?_)
          have e : ack l c = { l with q := l.q.drop (c - l.a).toNat, a := c.toNat } := if_pos (by omega)
          rw [e]
          refine W.ret (RetQ.part [] (by decide) (by simp) (by simp) ⟨?_, rfl⟩)
          show AV.tuple [.d (.agg [D.sl (0 + (l.q.length - (IntKind.i64.wrap (c - (l.a : Int))).toNat)) (([] ++ (((flat sC l.q).drop ((IntKind.i64.wrap (c - (l.a : Int))).toNat * 1)).take ((l.q.length - (IntKind.i64.wrap (c - (l.a : Int))).toNat) * 1))).take ((0 + (l.q.length - (IntKind.i64.wrap (c - (l.a : Int))).toNat)) * 1)), nI c, nI l.c, .lit (.bool l.o)]), .d (sD mt), .d (.lit (.bool false)), .d (nI 0)] = AV.tuple [.d (.agg [_, nI (c.toNat : Nat), _, _]), _, _, _]
          rw [hcl (by omega) (by omega), Int.toNat_of_nonneg (by omega)]
    | false =>
      have p3 : n ≠ -1 := by simpa using h3
      have hb : ¬ (n < -1 ∨ c < 0 ∨ (n < 0 ∧ isE s = false)) := by omega
      rw [if_neg hb, if_neg hb, if_neg (by omega)]
      cases h5 : (n != (l.c : Int)) with
      | true =>
        have p5 : n ≠ l.c := by simpa using h5
        rw [if_pos p5]
        cases d1 : decide (c > (l.a : Int)) with
        | false =>
          have g1 := of_decide_eq_false d1
          repeat (first | refine W.ite_f h1 ?_ | refine W.ite_f h2 ?_ | refine W.ite_f h3 ?_ | refine W.ite_t h5 ?_ | refine W.ite_f d1 ?_ | refine W.ite_t rfl ?_ | refine W.ite_f rfl ?_)
          have e : ack l c = l := if_neg (by omega)
          rw [e]
          refine W.ret (RetQ.part [] (by decide) (by simp) (by simp) ⟨?_, rfl⟩)
          rfl
        | true =>
        have g1 := of_decide_eq_true d1
        cases d2 : decide (IntKind.i64.wrap (c - (l.a : Int)) ≤ (l.q.length : Int)) with
        | false =>
          have g2 := of_decide_eq_false d2
          rw [wd] at g2
          repeat (first | refine W.ite_f h1 ?_ | refine W.ite_f h2 ?_ | refine W.ite_f h3 ?_ | refine W.ite_t h5 ?_ | refine W.ite_t d1 ?_ | refine W.ite_f d2 ?_ | refine W.ite_t rfl ?_ | refine W.ite_f rfl ?_)
          have e : ack l c = l := if_neg (by omega)
          rw [e]
          refine W.ret (RetQ.part [] (by decide) (by simp) (by simp) ⟨?_, rfl⟩)
          rfl
        | true =>
          have g2 := of_decide_eq_true d2
          rw [wd] at g2
          repeat (first | refine W.ite_f h1 ?_ | refine W.ite_f h2 ?_ | refine W.ite_f h3 ?_ | refine W.ite_t h5 ?_ | refine W.ite_t d1 ?_ | refine W.ite_t d2 ?_ | refine W.ite_t rfl ?_ | refine W.ite_f rfl ?_)
          refine W.need (by rw [wd]; omega) ?_
          refine W.need (hclN (by omega) (by omega)) ?_
          repeat (first | refine W.ite_f h1 ?_ | refine W.ite_f h2 ?_ | refine W.ite_f h3 ?_ | refine W.ite_t h5 ?_ | refine W.ite_t d1 ?_ | refine W.ite_t d2 ?_ | refine W.ite_t rfl ?_ | refine W.ite_f rfl ?_)
          have e : ack l c = { l with q := l.q.drop (c - l.a).toNat, a := c.toNat } := if_pos (by omega)
          rw [e]
          refine W.ret (RetQ.part [] (by decide) (by simp) (by simp) ⟨?_, rfl⟩)
          show AV.tuple [.d (.agg [D.sl (0 + (l.q.length - (IntKind.i64.wrap (c - (l.a : Int))).toNat)) (([] ++ (((flat sC l.q).drop ((IntKind.i64.wrap (c - (l.a : Int))).toNat * 1)).take ((l.q.length - (IntKind.i64.wrap (c - (l.a : Int))).toNat) * 1))).take ((0 + (l.q.length - (IntKind.i64.wrap (c - (l.a : Int))).toNat)) * 1)), nI c, nI l.c, .lit (.bool true)]), .d (sD mt), .d (.lit (.bool false)), .d (nI 0)] = AV.tuple [.d (.agg [_, nI (c.toNat : Nat), _, _]), _, _, _]
          rw [hcl (by omega) (by omega), Int.toNat_of_nonneg (by omega)]
      | false =>
        have p5 : n = l.c := by simpa using h5
        rw [if_neg (by omega)]
        cases d1 : decide (c > (l.a : Int)) with
        | false =>
          have g1 := of_decide_eq_false d1
          repeat (first | refine W.ite_f h1 ?_ | refine W.ite_f h2 ?_ | refine W.ite_f h3 ?_ | refine W.ite_f h5 ?_ | refine W.ite_f d1 ?_ | refine W.ite_t rfl ?_ | refine W.ite_f rfl ?_)
          have e : ack l c = l := if_neg (by omega)
          rw [e]
          refine W.ret (RetQ.part [] (by decide) (by simp) (by simp) ⟨?_, rfl⟩)
          show AV.tuple [.d (.agg [_, _, nI (IntKind.i64.wrap ((l.c : Int) + 1)), _]), _, _, _] = _
          rw [wc]
          rfl
        | true =>
        have g1 := of_decide_eq_true d1
        cases d2 : decide (IntKind.i64.wrap (c - (l.a : Int)) ≤ (l.q.length : Int)) with
        | false =>
          have g2 := of_decide_eq_false d2
          rw [wd] at g2
          repeat (first | refine W.ite_f h1 ?_ | refine W.ite_f h2 ?_ | refine W.ite_f h3 ?_ | refine W.ite_f h5 ?_ | refine W.ite_t d1 ?_ | refine W.ite_f d2 ?_ | refine W.ite_t rfl ?_ | refine W.ite_f rfl ?_)
          have e : ack l c = l := if_neg (by omega)
          rw [e]
          refine W.ret (RetQ.part [] (by decide) (by simp) (by simp) ⟨?_, rfl⟩)
          show AV.tuple [.d (.agg [_, _, nI (IntKind.i64.wrap ((l.c : Int) + 1)), _]), _, _, _] = _
          rw [wc]
          rfl
        | true =>
          have g2 := of_decide_eq_true d2
          rw [wd] at g2
          repeat (first | refine W.ite_f h1 ?_ | refine W.ite_f h2 ?_ | refine W.ite_f h3 ?_ | refine W.ite_f h5 ?_ | refine W.ite_t d1 ?_ | refine W.ite_t d2 ?_ | refine W.ite_t rfl ?_ | refine W.ite_f rfl ?_)
          refine W.need (by rw [wd]; omega) ?_
          refine W.need (hclN (by omega) (by omega)) ?_
          repeat (first | refine W.ite_f h1 ?_ | refine W.ite_f h2 ?_ | refine W.ite_f h3 ?_ | refine W.ite_f h5 ?_ | refine W.ite_t d1 ?_ | refine W.ite_t d2 ?_ | refine W.ite_t rfl ?_ | refine W.ite_f rfl ?_)
          have e : ack l c = { l with q := l.q.drop (c - l.a).toNat, a := c.toNat } := if_pos (by omega)
          rw [e]
          refine W.ret (RetQ.part [] (by decide) (by simp) (by simp) ⟨?_, rfl⟩)
          show AV.tuple [.d (.agg [D.sl (0 + (l.q.length - (IntKind.i64.wrap (c - (l.a : Int))).toNat)) (([] ++ (((flat sC l.q).drop ((IntKind.i64.wrap (c - (l.a : Int))).toNat * 1)).take ((l.q.length - (IntKind.i64.wrap (c - (l.a : Int))).toNat) * 1))).take ((0 + (l.q.length - (IntKind.i64.wrap (c - (l.a : Int))).toNat)) * 1)), nI c, nI (IntKind.i64.wrap ((l.c : Int) + 1)), .lit (.bool true)]), .d (sD s), .d (.lit (.bool true)), .d (nI 0)] = AV.tuple [.d (.agg [_, nI (c.toNat : Nat), _, _]), _, _, _]
          rw [hcl (by omega) (by omega), Int.toNat_of_nonneg (by omega), wc]
end Go.Proofs.YtpemfjnjkjckoaaDoor.Lk
