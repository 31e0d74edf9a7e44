import Derived.Test.YtpemfjnjkjckoaaDoorLX
import Derived.Test.YtpemfjnjkjckoaaDoorLKA
import Derived.Test.YtpemfjnjkjckoaaDoorLKB
set_option maxRecDepth 100000
set_option linter.unusedVariables false
set_option linter.unusedSimpArgs false
/- The statement LinkPlays. -/
namespace Go.Proofs.YtpemfjnjkjckoaaDoor.Lk
open Go Go.Am Co
def od3 : Ords := [(16, [0, 1, 2, 3, 1004, 5]), (31, [0, 1, 2, 3, 4, 5, 6, 7, 8, 9, 10, 11, 12]), (32, [0, 1, 2, 3, 4, 5, 6, 7, 8, 9, 1010, 11, 12, 13, 14, 15, 16, 17]), (40, [0, 1, 2, 4, 5, 6, 3, 1007, 8, 9, 10, 11, 12, 13, 14, 15, 16, 17, 18, 19, 20, 21, 22, 23, 24, 25, 26, 27, 1028, 29, 30, 31, 32, 33, 34, 35, 36, 37, 38]), (17, [0, 1, 2, 3, 4, 2017, 5, 6, 7, 8, 9, 10, 11]), (2017, [9, 5, 6, 7, 8, 10, 11]), (22, [0, 2, 3, 4, 6, 7, 2022, 1, 2023, 8, 5, 9, 10, 1011]), (2022, [8, 1, 5, 9, 10, 1011]), (2023, [5, 8, 9, 10, 1011]), (33, [0, 1, 2, 3, 4, 5, 6, 7, 8, 9, 10, 2033, 11, 12, 13, 14, 15, 16, 17, 18, 19, 20, 21]), (2033, [17, 11, 12, 13, 14, 15, 16, 18, 19, 20, 21])]
theorem code3 : codeB Tryd.f3.ntmps od3 (match Tryd.f3.body with | some c => c | none => .skip) = true := by kernel_rfl
theorem acE4 {l : List Act} {i : Nat} {x : Act} (h : l[i]? = some x) : Elem (flat acC l) [.bool, .int .i64, .int .i64, .str] (i * 4) 4 (acC x) := Elem.all acC_len h [.bool, .int .i64, .int .i64, .str] rfl ⟨rfl, rfl, rfl, rfl, True.intro⟩ rfl
theorem madeOk.err {P : List ByteArray} {c : Nat} {p : ByteArray} (h : madeOk P c p) (hc : c ≤ 1000000) : takeE p = 0 ∧ p.size ≤ 1000000 := by
  obtain ⟨n, k, s, rfl, h2, h3, h4, h5, h6⟩ := h
  constructor
  · unfold takeE
    rw [rd_pk ⟨by omega, by omega⟩ ⟨by omega, by omega⟩ (by omega)]
    show takeC n k s = 0
    unfold takeC
    rw [if_neg]
    rintro (h | h | ⟨h, h7⟩)
    · omega
    · omega
    · rcases h6 with ⟨_, rfl⟩ | ⟨m, rfl, _⟩
      · rw [isE_mt] at h7; cases h7
      · omega
  · have := pk_size (n := n) (c := k) (s := s) ⟨by omega, by omega⟩ ⟨by omega, by omega⟩ (by omega)
    omega
theorem Half.tail {S R : Lk} {P M C : List ByteArray} (h : Half S R P M C) : decide ((C.length : Int) > (P.length : Int)) = false ∧ ((R.c : Int) != (C.length : Int)) = false ∧ C.length ≤ P.length ∧ P.take C.length = C := by
  have hc := h.c
  have hl : C.length = R.c := by rw [h.came, List.length_take]; omega
  refine ⟨decide_eq_false (by omega), ?_, by omega, ?_⟩
  · rw [hl]; simp
  · rw [hl]; exact h.came.symm
abbrev prL (a b : List ByteArray) : Blk := .var [slS a, slS b]
abbrev st5 (E F : Lk) (M N P Q C D : List ByteArray) : Store := [.var (lkC E ++ lkC F), .var (lkC E ++ lkC F), prL M N, prL P Q, prL C D]
theorem keep5 : ∀ i, i < 5 → [0, 1, 2, 3, 4][i]? = some i := by
  intro j hj
  have : j = 0 ∨ j = 1 ∨ j = 2 ∨ j = 3 ∨ j = 4 := by omega
  rcases this with rfl | rfl | rfl | rfl | rfl <;> rfl
/-- What holds behind i calls. -/
structure Fifo (i : Nat) (E F : Lk) (M N P Q C D : List ByteArray) : Prop where
  ef : Half E F P M D
  fe : Half F E Q N C
  be : Bd E i
  bf : Bd F i
  lp : P.length ≤ i
  lq : Q.length ≤ i
  lm : M.length ≤ 100 * i
  ln : N.length ≤ 100 * i
theorem packets_len (l : Lk) : (packets l).length ≤ 100 := by
  unfold Lk.packets
  split
  · split <;> simp
  · rw [pks_len, List.length_take]; omega
theorem snoc2 (l : List ByteArray) (m : List ByteArray) : D.sl (0 + l.length + m.length) ((([] ++ flat sC l) ++ flat sC m).take ((0 + l.length + m.length) * 1)) = .sl (l ++ m).length (flat sC (l ++ m)) := by
  rw [Nat.zero_add, List.nil_append, ← flat_append, ← List.length_append, flat_all sC_len]
set_option maxHeartbeats 64000000 in
theorem ok3 (A : List Act) : Go.Am.Pure Tryd.prog 3 [slF acC A] (bI true) := by
  refine CallOk.of tysOk mixed od3 Tryd.func3 rfl rfl code3 ?_
  refine W.pure ok5 rfl rfl ?_
  refine W.ite_f rfl ?_
  refine W.loop (fun k fr σ => ∃ (i : Nat) (E F : Lk) (M N P Q C D : List ByteArray), fr = [(0, slF acC A), (3, .ptr 0 0), (4, .ptr 1 0), (5, .ptr 2 0), (6, .ptr 3 0), (7, .ptr 4 0), (8, .d (nI i))] ∧ σ = st5 E F M N P Q C D ∧ i ≤ 60 ∧ Fifo i E F M N P Q C D ∧ k = 60 - i) 60
    (Start.of [0, 3, 4, 5, 6, 7, 8] [] (by simp)) ⟨0, lk0, lk0, [], [], [], [], [], [], rfl, rfl, by omega, ⟨Half.zero, Half.zero, Bd.zero, Bd.zero, by simp, by simp, by simp, by simp⟩, rfl⟩ ?_
  rintro k fr σ ⟨i, E, F, M, N, P, Q, C, D, rfl, rfl, hi, hF, rfl⟩
  by_cases hgo : i < A.length ∧ i < 60
  · obtain ⟨hil, hi4⟩ := hgo
    have c1 : decide ((i : Int) < (A.length : Int)) = true := decide_eq_true (by omega)
    have c2 : decide ((i : Int) < 60) = true := decide_eq_true (by omega)
    repeat (first | refine W.ite_t rfl ?_ | refine W.ite_f rfl ?_ | refine W.ite_t c1 ?_ | refine W.ite_t c2 ?_)
    obtain ⟨a, ha⟩ : ∃ x, A[i]? = some x := ⟨_, List.getElem?_eq_getElem hil⟩
    refine W.need (ix_ok acC_len (by decide) hil) ?_
    refine W.ld (acE4 ha) ?_
    have g4 : IntKind.i64.wrap ((i : Int) + 1) = ((i + 1 : Nat) : Int) := wrapS' (by omega)
    refine W.pure (ok6 a.s 2100) rfl rfl ?_
    have hEok := hF.be.ok (by omega)
    have hFok := hF.bf.ok (by omega)
    have hcz := cut_size a.s 2100
    generalize cut a.s 2100 = s at *
    obtain ⟨ef, fe, be, bf, lp, lq, lm, ln⟩ := hF
    have lD : D.length ≤ P.length := by rw [ef.came, List.length_take]; omega
    have lC : C.length ≤ Q.length := by rw [fe.came, List.length_take]; omega
    cases hside : a.side with
    | false =>
      refine W.ite_f rfl ?_
      by_cases k1 : a.k = 1
      · have d1 : (a.k == 1) = true := by rw [beq_iff_eq]; exact k1
        refine W.ite_t d1 ?_
        have kp := okA7 E F hEok s
        have kq := ok8 E hEok s
        have kO := okOfPush E s
        have hb := be.push s
        rcases push_cases E s with hpc | hpc | hpc
        · rw [hpc] at kp kq kO hb
          rw [errC_ne (show (1 : Int) ≠ 0 by decide)] at kp kO
          refine W.need (by decide) ?_
          refine W.callT [0] kp (by decide) rfl rfl rfl rfl ?_
          rintro v σ ⟨rfl, rfl⟩
          refine W.need (by decide) ?_
          refine W.both ?_ ?_
          · skip
            repeat (first | refine W.ite_t rfl ?_ | refine W.ite_f rfl ?_ | refine W.need (by decide) ?_ | refine W.pure kq rfl rfl ?_ | refine W.pure kO rfl rfl ?_)
            have hXok := hEok
            have hT := Half.tail fe
            obtain ⟨t1, t2, t3, t4⟩ := hT
            have kT := ok16 E
            have kR := ok15 E hXok
            have kS : Go.Am.Pure Tryd.prog 12 [slS C, .d (.sl (C).length ((flat sC Q).take ((C).length * 1)))] (bI true) := by
              rw [flat_take sC_len, t4]; exact ok12 C (by omega)
            repeat (first | refine W.ite_t rfl ?_ | refine W.ite_f rfl ?_ | refine W.need (by decide) ?_ | refine W.ite_f t1 ?_ | refine W.ite_f t2 ?_ | refine W.need ⟨Int.natCast_nonneg _, Int.ofNat_le.2 t3⟩ ?_ | refine W.pure kT rfl rfl ?_ | refine W.pure kR rfl rfl ?_ | refine W.pure kS rfl rfl ?_)
            refine W.ret ⟨_, _, _, ?_, Trim.of [0, 3, 4, 5, 6, 7, 8] [0, 1, 2, 3, 4] (by decide) (by show ∀ i ∈ [0, 1, 2, 3, 4], i < 7; simp) keep5, i + 1, E, F, M, N, P, Q, C, D, ?_, ?_, by omega, ⟨ef, fe, be.next, bf.next, by omega, by omega, by omega, by omega⟩, rfl⟩
            · omega
            · rw [← g4]; rfl
            · rfl
          · skip
            repeat (first | refine W.ite_t rfl ?_ | refine W.ite_f rfl ?_ | refine W.need (by decide) ?_ | refine W.pure kq rfl rfl ?_ | refine W.pure kO rfl rfl ?_)
            have hXok := hEok
            have hT := Half.tail fe
            obtain ⟨t1, t2, t3, t4⟩ := hT
            have kT := ok16 E
            have kR := ok15 E hXok
            have kS : Go.Am.Pure Tryd.prog 12 [slS C, .d (.sl (C).length ((flat sC Q).take ((C).length * 1)))] (bI true) := by
              rw [flat_take sC_len, t4]; exact ok12 C (by omega)
            repeat (first | refine W.ite_t rfl ?_ | refine W.ite_f rfl ?_ | refine W.need (by decide) ?_ | refine W.ite_f t1 ?_ | refine W.ite_f t2 ?_ | refine W.need ⟨Int.natCast_nonneg _, Int.ofNat_le.2 t3⟩ ?_ | refine W.pure kT rfl rfl ?_ | refine W.pure kR rfl rfl ?_ | refine W.pure kS rfl rfl ?_)
            refine W.ret ⟨_, _, _, ?_, Trim.of [0, 3, 4, 5, 6, 7, 8] [0, 1, 2, 3, 4] (by decide) (by show ∀ i ∈ [0, 1, 2, 3, 4], i < 7; simp) keep5, i + 1, E, F, M, N, P, Q, C, D, ?_, ?_, by omega, ⟨ef, fe, be.next, bf.next, by omega, by omega, by omega, by omega⟩, rfl⟩
            · omega
            · rw [← g4]; rfl
            · rfl
        · rw [hpc] at kp kq kO hb
          rw [errC_ne (show (4 : Int) ≠ 0 by decide)] at kp kO
          refine W.need (by decide) ?_
          refine W.callT [0] kp (by decide) rfl rfl rfl rfl ?_
          rintro v σ ⟨rfl, rfl⟩
          refine W.need (by decide) ?_
          refine W.both ?_ ?_
          · skip
            repeat (first | refine W.ite_t rfl ?_ | refine W.ite_f rfl ?_ | refine W.need (by decide) ?_ | refine W.pure kq rfl rfl ?_ | refine W.pure kO rfl rfl ?_)
            have hXok := hEok
            have hT := Half.tail fe
            obtain ⟨t1, t2, t3, t4⟩ := hT
            have kT := ok16 E
            have kR := ok15 E hXok
            have kS : Go.Am.Pure Tryd.prog 12 [slS C, .d (.sl (C).length ((flat sC Q).take ((C).length * 1)))] (bI true) := by
              rw [flat_take sC_len, t4]; exact ok12 C (by omega)
            repeat (first | refine W.ite_t rfl ?_ | refine W.ite_f rfl ?_ | refine W.need (by decide) ?_ | refine W.ite_f t1 ?_ | refine W.ite_f t2 ?_ | refine W.need ⟨Int.natCast_nonneg _, Int.ofNat_le.2 t3⟩ ?_ | refine W.pure kT rfl rfl ?_ | refine W.pure kR rfl rfl ?_ | refine W.pure kS rfl rfl ?_)
            refine W.ret ⟨_, _, _, ?_, Trim.of [0, 3, 4, 5, 6, 7, 8] [0, 1, 2, 3, 4] (by decide) (by show ∀ i ∈ [0, 1, 2, 3, 4], i < 7; simp) keep5, i + 1, E, F, M, N, P, Q, C, D, ?_, ?_, by omega, ⟨ef, fe, be.next, bf.next, by omega, by omega, by omega, by omega⟩, rfl⟩
            · omega
            · rw [← g4]; rfl
            · rfl
          · skip
            repeat (first | refine W.ite_t rfl ?_ | refine W.ite_f rfl ?_ | refine W.need (by decide) ?_ | refine W.pure kq rfl rfl ?_ | refine W.pure kO rfl rfl ?_)
            have hXok := hEok
            have hT := Half.tail fe
            obtain ⟨t1, t2, t3, t4⟩ := hT
            have kT := ok16 E
            have kR := ok15 E hXok
            have kS : Go.Am.Pure Tryd.prog 12 [slS C, .d (.sl (C).length ((flat sC Q).take ((C).length * 1)))] (bI true) := by
              rw [flat_take sC_len, t4]; exact ok12 C (by omega)
            repeat (first | refine W.ite_t rfl ?_ | refine W.ite_f rfl ?_ | refine W.need (by decide) ?_ | refine W.ite_f t1 ?_ | refine W.ite_f t2 ?_ | refine W.need ⟨Int.natCast_nonneg _, Int.ofNat_le.2 t3⟩ ?_ | refine W.pure kT rfl rfl ?_ | refine W.pure kR rfl rfl ?_ | refine W.pure kS rfl rfl ?_)
            refine W.ret ⟨_, _, _, ?_, Trim.of [0, 3, 4, 5, 6, 7, 8] [0, 1, 2, 3, 4] (by decide) (by show ∀ i ∈ [0, 1, 2, 3, 4], i < 7; simp) keep5, i + 1, E, F, M, N, P, Q, C, D, ?_, ?_, by omega, ⟨ef, fe, be.next, bf.next, by omega, by omega, by omega, by omega⟩, rfl⟩
            · omega
            · rw [← g4]; rfl
            · rfl
        · rw [hpc] at kp kq kO hb
          rw [errC0] at kp kO
          refine W.need (by decide) ?_
          refine W.callT [0] kp (by decide) rfl rfl rfl rfl ?_
          rintro v σ ⟨rfl, rfl⟩
          refine W.need (by decide) ?_
          have hs1970 : s.size ≤ 1970 := hb.s s (List.mem_append_right _ (List.mem_singleton.2 rfl))
          have hH := ef.push s hs1970 (by omega)
          have hG := fe.recv (R' := { E with q := E.q ++ [s] }) rfl
          have hXok := hb.ok (by omega)
          refine W.both ?_ ?_
          · skip
            repeat (first | refine W.ite_t rfl ?_ | refine W.ite_f rfl ?_ | refine W.need (by decide) ?_ | refine W.pure kq rfl rfl ?_ | refine W.pure kO rfl rfl ?_)
            refine W.both (W.both ?_ ?_) ?_
            · refine W.alt_l ?_
              refine W.need ⟨rfl, rfl, by rw [sl_len]; simp, by omega, by omega, flat_one sC_one P⟩ ?_
              refine W.need ⟨rfl, rfl, rfl, by omega, by omega, by intro c hc; obtain rfl := List.mem_singleton.1 hc; rfl⟩ ?_
              repeat (first | refine W.ite_t rfl ?_ | refine W.ite_f rfl ?_ | refine W.need (by decide) ?_)
              have hT := Half.tail hG
              obtain ⟨t1, t2, t3, t4⟩ := hT
              have kT := ok16 { E with q := E.q ++ [s] }
              have kR := ok15 { E with q := E.q ++ [s] } hXok
              have kS : Go.Am.Pure Tryd.prog 12 [slS C, .d (.sl (C).length ((flat sC Q).take ((C).length * 1)))] (bI true) := by
                rw [flat_take sC_len, t4]; exact ok12 C (by omega)
              repeat (first | refine W.ite_t rfl ?_ | refine W.ite_f rfl ?_ | refine W.need (by decide) ?_ | refine W.ite_f t1 ?_ | refine W.ite_f t2 ?_ | refine W.need ⟨Int.natCast_nonneg _, Int.ofNat_le.2 t3⟩ ?_ | refine W.pure kT rfl rfl ?_ | refine W.pure kR rfl rfl ?_ | refine W.pure kS rfl rfl ?_)
              refine W.ret ⟨_, _, _, ?_, Trim.of [0, 3, 4, 5, 6, 7, 8] [0, 1, 2, 3, 4] (by decide) (fun j hj => Nat.lt_of_lt_of_le (show j < 5 by simp at hj; omega) (Nat.le_add_left _ _)) keep5, i + 1, ({ E with q := E.q ++ [s] }), F, M, N, (P ++ [s]), Q, C, D, ?_, ?_, by omega, ⟨hH, hG, hb, bf.next, by simp only [List.length_append, List.length_singleton]; omega, by omega, by omega, by omega⟩, rfl⟩
              · omega
              · rw [← g4]; rfl
              · have e := snoc2 P [s]
                simp only [st5, prL, slS, slF]
                rw [← e]
                rfl
            · refine W.need ⟨rfl, rfl, by rw [sl_len]; simp, by omega, by omega, flat_one sC_one P⟩ ?_
              refine W.alt_l ?_
              refine W.need ⟨rfl, rfl, rfl, by omega, by omega, by intro c hc; obtain rfl := List.mem_singleton.1 hc; rfl⟩ ?_
              repeat (first | refine W.ite_t rfl ?_ | refine W.ite_f rfl ?_ | refine W.need (by decide) ?_)
              have hT := Half.tail hG
              obtain ⟨t1, t2, t3, t4⟩ := hT
              have kT := ok16 { E with q := E.q ++ [s] }
              have kR := ok15 { E with q := E.q ++ [s] } hXok
              have kS : Go.Am.Pure Tryd.prog 12 [slS C, .d (.sl (C).length ((flat sC Q).take ((C).length * 1)))] (bI true) := by
                rw [flat_take sC_len, t4]; exact ok12 C (by omega)
              repeat (first | refine W.ite_t rfl ?_ | refine W.ite_f rfl ?_ | refine W.need (by decide) ?_ | refine W.ite_f t1 ?_ | refine W.ite_f t2 ?_ | refine W.need ⟨Int.natCast_nonneg _, Int.ofNat_le.2 t3⟩ ?_ | refine W.pure kT rfl rfl ?_ | refine W.pure kR rfl rfl ?_ | refine W.pure kS rfl rfl ?_)
              refine W.ret ⟨_, _, _, ?_, Trim.of [0, 3, 4, 5, 6, 7, 8] [0, 1, 2, 3, 4] (by decide) (fun j hj => Nat.lt_of_lt_of_le (show j < 5 by simp at hj; omega) (Nat.le_add_left _ _)) keep5, i + 1, ({ E with q := E.q ++ [s] }), F, M, N, (P ++ [s]), Q, C, D, ?_, ?_, by omega, ⟨hH, hG, hb, bf.next, by simp only [List.length_append, List.length_singleton]; omega, by omega, by omega, by omega⟩, rfl⟩
              · omega
              · rw [← g4]; rfl
              · have e := snoc2 P [s]
                simp only [st5, prL, slS, slF]
                rw [← e]
                rfl
            · refine W.alt_l ?_
              refine W.need ⟨rfl, rfl, by rw [sl_len]; simp, by omega, by omega, flat_one sC_one P⟩ ?_
              refine W.need ⟨rfl, rfl, rfl, by omega, by omega, by intro c hc; obtain rfl := List.mem_singleton.1 hc; rfl⟩ ?_
              repeat (first | refine W.ite_t rfl ?_ | refine W.ite_f rfl ?_ | refine W.need (by decide) ?_)
              have hT := Half.tail hG
              obtain ⟨t1, t2, t3, t4⟩ := hT
              have kT := ok16 { E with q := E.q ++ [s] }
              have kR := ok15 { E with q := E.q ++ [s] } hXok
              have kS : Go.Am.Pure Tryd.prog 12 [slS C, .d (.sl (C).length ((flat sC Q).take ((C).length * 1)))] (bI true) := by
                rw [flat_take sC_len, t4]; exact ok12 C (by omega)
              repeat (first | refine W.ite_t rfl ?_ | refine W.ite_f rfl ?_ | refine W.need (by decide) ?_ | refine W.ite_f t1 ?_ | refine W.ite_f t2 ?_ | refine W.need ⟨Int.natCast_nonneg _, Int.ofNat_le.2 t3⟩ ?_ | refine W.pure kT rfl rfl ?_ | refine W.pure kR rfl rfl ?_ | refine W.pure kS rfl rfl ?_)
              refine W.ret ⟨_, _, _, ?_, Trim.of [0, 3, 4, 5, 6, 7, 8] [0, 1, 2, 3, 4] (by decide) (fun j hj => Nat.lt_of_lt_of_le (show j < 5 by simp at hj; omega) (Nat.le_add_left _ _)) keep5, i + 1, ({ E with q := E.q ++ [s] }), F, M, N, (P ++ [s]), Q, C, D, ?_, ?_, by omega, ⟨hH, hG, hb, bf.next, by simp only [List.length_append, List.length_singleton]; omega, by omega, by omega, by omega⟩, rfl⟩
              · omega
              · rw [← g4]; rfl
              · have e := snoc2 P [s]
                simp only [st5, prL, slS, slF]
                rw [← e]
                rfl
          · skip
            repeat (first | refine W.ite_t rfl ?_ | refine W.ite_f rfl ?_ | refine W.need (by decide) ?_ | refine W.pure kq rfl rfl ?_ | refine W.pure kO rfl rfl ?_)
            refine W.both (W.both ?_ ?_) ?_
            · refine W.alt_l ?_
              refine W.need ⟨rfl, rfl, by rw [sl_len]; simp, by omega, by omega, flat_one sC_one P⟩ ?_
              refine W.need ⟨rfl, rfl, rfl, by omega, by omega, by intro c hc; obtain rfl := List.mem_singleton.1 hc; rfl⟩ ?_
              repeat (first | refine W.ite_t rfl ?_ | refine W.ite_f rfl ?_ | refine W.need (by decide) ?_)
              have hT := Half.tail hG
              obtain ⟨t1, t2, t3, t4⟩ := hT
              have kT := ok16 { E with q := E.q ++ [s] }
              have kR := ok15 { E with q := E.q ++ [s] } hXok
              have kS : Go.Am.Pure Tryd.prog 12 [slS C, .d (.sl (C).length ((flat sC Q).take ((C).length * 1)))] (bI true) := by
                rw [flat_take sC_len, t4]; exact ok12 C (by omega)
              repeat (first | refine W.ite_t rfl ?_ | refine W.ite_f rfl ?_ | refine W.need (by decide) ?_ | refine W.ite_f t1 ?_ | refine W.ite_f t2 ?_ | refine W.need ⟨Int.natCast_nonneg _, Int.ofNat_le.2 t3⟩ ?_ | refine W.pure kT rfl rfl ?_ | refine W.pure kR rfl rfl ?_ | refine W.pure kS rfl rfl ?_)
              refine W.ret ⟨_, _, _, ?_, Trim.of [0, 3, 4, 5, 6, 7, 8] [0, 1, 2, 3, 4] (by decide) (fun j hj => Nat.lt_of_lt_of_le (show j < 5 by simp at hj; omega) (Nat.le_add_left _ _)) keep5, i + 1, ({ E with q := E.q ++ [s] }), F, M, N, (P ++ [s]), Q, C, D, ?_, ?_, by omega, ⟨hH, hG, hb, bf.next, by simp only [List.length_append, List.length_singleton]; omega, by omega, by omega, by omega⟩, rfl⟩
              · omega
              · rw [← g4]; rfl
              · have e := snoc2 P [s]
                simp only [st5, prL, slS, slF]
                rw [← e]
                rfl
            · refine W.need ⟨rfl, rfl, by rw [sl_len]; simp, by omega, by omega, flat_one sC_one P⟩ ?_
              refine W.alt_l ?_
              refine W.need ⟨rfl, rfl, rfl, by omega, by omega, by intro c hc; obtain rfl := List.mem_singleton.1 hc; rfl⟩ ?_
              repeat (first | refine W.ite_t rfl ?_ | refine W.ite_f rfl ?_ | refine W.need (by decide) ?_)
              have hT := Half.tail hG
              obtain ⟨t1, t2, t3, t4⟩ := hT
              have kT := ok16 { E with q := E.q ++ [s] }
              have kR := ok15 { E with q := E.q ++ [s] } hXok
              have kS : Go.Am.Pure Tryd.prog 12 [slS C, .d (.sl (C).length ((flat sC Q).take ((C).length * 1)))] (bI true) := by
                rw [flat_take sC_len, t4]; exact ok12 C (by omega)
              repeat (first | refine W.ite_t rfl ?_ | refine W.ite_f rfl ?_ | refine W.need (by decide) ?_ | refine W.ite_f t1 ?_ | refine W.ite_f t2 ?_ | refine W.need ⟨Int.natCast_nonneg _, Int.ofNat_le.2 t3⟩ ?_ | refine W.pure kT rfl rfl ?_ | refine W.pure kR rfl rfl ?_ | refine W.pure kS rfl rfl ?_)
              refine W.ret ⟨_, _, _, ?_, Trim.of [0, 3, 4, 5, 6, 7, 8] [0, 1, 2, 3, 4] (by decide) (fun j hj => Nat.lt_of_lt_of_le (show j < 5 by simp at hj; omega) (Nat.le_add_left _ _)) keep5, i + 1, ({ E with q := E.q ++ [s] }), F, M, N, (P ++ [s]), Q, C, D, ?_, ?_, by omega, ⟨hH, hG, hb, bf.next, by simp only [List.length_append, List.length_singleton]; omega, by omega, by omega, by omega⟩, rfl⟩
              · omega
              · rw [← g4]; rfl
              · have e := snoc2 P [s]
                simp only [st5, prL, slS, slF]
                rw [← e]
                rfl
            · refine W.alt_l ?_
              refine W.need ⟨rfl, rfl, by rw [sl_len]; simp, by omega, by omega, flat_one sC_one P⟩ ?_
              refine W.need ⟨rfl, rfl, rfl, by omega, by omega, by intro c hc; obtain rfl := List.mem_singleton.1 hc; rfl⟩ ?_
              repeat (first | refine W.ite_t rfl ?_ | refine W.ite_f rfl ?_ | refine W.need (by decide) ?_)
              have hT := Half.tail hG
              obtain ⟨t1, t2, t3, t4⟩ := hT
              have kT := ok16 { E with q := E.q ++ [s] }
              have kR := ok15 { E with q := E.q ++ [s] } hXok
              have kS : Go.Am.Pure Tryd.prog 12 [slS C, .d (.sl (C).length ((flat sC Q).take ((C).length * 1)))] (bI true) := by
                rw [flat_take sC_len, t4]; exact ok12 C (by omega)
              repeat (first | refine W.ite_t rfl ?_ | refine W.ite_f rfl ?_ | refine W.need (by decide) ?_ | refine W.ite_f t1 ?_ | refine W.ite_f t2 ?_ | refine W.need ⟨Int.natCast_nonneg _, Int.ofNat_le.2 t3⟩ ?_ | refine W.pure kT rfl rfl ?_ | refine W.pure kR rfl rfl ?_ | refine W.pure kS rfl rfl ?_)
              refine W.ret ⟨_, _, _, ?_, Trim.of [0, 3, 4, 5, 6, 7, 8] [0, 1, 2, 3, 4] (by decide) (fun j hj => Nat.lt_of_lt_of_le (show j < 5 by simp at hj; omega) (Nat.le_add_left _ _)) keep5, i + 1, ({ E with q := E.q ++ [s] }), F, M, N, (P ++ [s]), Q, C, D, ?_, ?_, by omega, ⟨hH, hG, hb, bf.next, by simp only [List.length_append, List.length_singleton]; omega, by omega, by omega, by omega⟩, rfl⟩
              · omega
              · rw [← g4]; rfl
              · have e := snoc2 P [s]
                simp only [st5, prL, slS, slF]
                rw [← e]
                rfl
      have d1 : (a.k == 1) = false := by rw [beq_eq_false_iff_ne]; exact k1
      by_cases k2 : a.k = 2
      · have d2 : (a.k == 2) = true := by rw [beq_iff_eq]; exact k2
        refine W.ite_f d1 ?_
        refine W.ite_t d2 ?_
        have kp := okA10 E F hEok
        have kq := ok11 E hEok
        have hpl := packets_len E
        have kSm := ok12 (packets E) (by omega)
        have hH := ef.packets
        have hG := fe.recv (R' := { E with o := false }) rfl
        have hb := be.quiet
        have hXok := hb.ok (by omega)
        generalize packets E = L at *
        refine W.need (by decide) ?_
        refine W.callT [0] kp (by decide) rfl rfl rfl rfl ?_
        rintro v σ ⟨rfl, rfl⟩
        repeat (first | refine W.ite_t rfl ?_ | refine W.ite_f rfl ?_ | refine W.need (by decide) ?_ | refine W.pure kq rfl rfl ?_ | refine W.pure kSm rfl rfl ?_)
        refine W.need ⟨rfl, rfl, by rw [sl_len]; simp, by omega, by omega, flat_one sC_one M⟩ ?_
        refine W.need ⟨rfl, rfl, by rw [sl_len]; simp, by omega, by omega, flat_one sC_one L⟩ ?_
        repeat (first | refine W.ite_t rfl ?_ | refine W.ite_f rfl ?_ | refine W.need (by decide) ?_)
        have hT := Half.tail hG
        obtain ⟨t1, t2, t3, t4⟩ := hT
        have kT := ok16 { E with o := false }
        have kR := ok15 { E with o := false } hXok
        have kS : Go.Am.Pure Tryd.prog 12 [slS C, .d (.sl (C).length ((flat sC Q).take ((C).length * 1)))] (bI true) := by
          rw [flat_take sC_len, t4]; exact ok12 C (by omega)
        repeat (first | refine W.ite_t rfl ?_ | refine W.ite_f rfl ?_ | refine W.need (by decide) ?_ | refine W.ite_f t1 ?_ | refine W.ite_f t2 ?_ | refine W.need ⟨Int.natCast_nonneg _, Int.ofNat_le.2 t3⟩ ?_ | refine W.pure kT rfl rfl ?_ | refine W.pure kR rfl rfl ?_ | refine W.pure kS rfl rfl ?_)
        refine W.ret ⟨_, _, _, ?_, Trim.of [0, 3, 4, 5, 6, 7, 8] [0, 1, 2, 3, 4] (by decide) (fun j hj => Nat.lt_of_lt_of_le (show j < 5 by simp at hj; omega) (Nat.le_add_left _ _)) keep5, i + 1, ({ E with o := false }), F, (M ++ L), N, P, Q, C, D, ?_, ?_, by omega, ⟨hH, hG, hb, bf.next, by omega, by omega, by simp only [List.length_append]; omega, by omega⟩, rfl⟩
        · omega
        · rw [← g4]; rfl
        · have e := snoc2 M L
          simp only [st5, prL, slS, slF]
          rw [← e]
          rfl
      have d2 : (a.k == 2) = false := by rw [beq_eq_false_iff_ne]; exact k2
      by_cases k3 : a.k = 3
      · have d3 : (a.k == 3) = true := by rw [beq_iff_eq]; exact k3
        refine W.ite_f d1 ?_
        refine W.ite_f d2 ?_
        refine W.ite_t d3 ?_
        by_cases hneg : a.n < 0
        · have d4 : decide (a.n < 0) = true := decide_eq_true hneg
          iterate 9 (refine W.ite_t d4 ?_)
          refine ⟨?_⟩
          show Res.wp _ (codeR tys od3 (Code.exit 1) _ _ _) _
          refine (?_ : W Tryd.prog _ _).out
          refine W.ret ⟨_, _, _, ?_, Trim.of [0, 3, 4, 5, 6, 7, 8] [0, 1, 2, 3, 4] (by decide) (by show ∀ i ∈ [0, 1, 2, 3, 4], i < 6; simp) keep5, i + 1, E, F, M, N, P, Q, C, D, ?_, rfl, by omega, ⟨ef, fe, be.next, bf.next, by omega, by omega, by omega, by omega⟩, rfl⟩
          · omega
          · rw [← g4]; rfl
        have d4 : decide (a.n < 0) = false := decide_eq_false hneg
        obtain ⟨m, hm⟩ := Int.eq_ofNat_of_zero_le (show 0 ≤ a.n by omega)
        by_cases hbig : m ≥ N.length
        · have d5 : decide (a.n ≥ (N.length : Int)) = true := decide_eq_true (by omega)
          iterate 5 (refine W.ite_f d4 ?_)
          refine W.need (by decide) ?_
          iterate 4 (refine W.ite_f d4 ?_)
          show W _ (codeR tys od3 (Code.cond (Operand.tmp 131) _ _) ((131, AV.d (.lit (.bool (decide (a.n ≥ (N.length : Int)))))) :: _) _ _) _
          rw [d5]
          refine ⟨?_⟩
          show Res.wp _ (codeR tys od3 (Code.exit 1) _ _ _) _
          refine (?_ : W Tryd.prog _ _).out
          refine W.ret ⟨_, _, _, ?_, Trim.of [0, 3, 4, 5, 6, 7, 8] [0, 1, 2, 3, 4] (by decide) (by show ∀ i ∈ [0, 1, 2, 3, 4], i < 6; simp) keep5, i + 1, E, F, M, N, P, Q, C, D, ?_, rfl, by omega, ⟨ef, fe, be.next, bf.next, by omega, by omega, by omega, by omega⟩, rfl⟩
          · omega
          · rw [← g4]; rfl
        have d5 : decide (a.n ≥ (N.length : Int)) = false := decide_eq_false (by omega)
        iterate 5 (refine W.ite_f d4 ?_)
        refine W.need (by decide) ?_
        iterate 4 (refine W.ite_f d4 ?_)
        show W _ (codeR tys od3 (Code.cond (Operand.tmp 131) _ _) ((131, AV.d (.lit (.bool (decide (a.n ≥ (N.length : Int)))))) :: _) _ _) _
        rw [d5]
        refine ⟨?_⟩
        show Res.wp _ (codeR tys od3 Code.skip _ _ _) _
        refine (?_ : W Tryd.prog _ _).out
        obtain ⟨p, hp⟩ : ∃ p, N[m]? = some p := ⟨_, List.getElem?_eq_getElem (by omega)⟩
        have hpm := List.mem_of_getElem? hp
        obtain ⟨herr, hpz⟩ := (fe.made p hpm).err (by have := bf.c; omega)
        obtain ⟨h1, h2, h3⟩ := fe.take ef hpm
        have kp := okA13 E F hEok p hpz
        have kq := ok14 E hEok p hpz
        have kO := okOfTake E p
        have hb := be.take p
        have hXok := hb.ok (by omega)
        rw [herr] at kq kO
        generalize takeL E p = R at *
        obtain ⟨⟨v, ok, e⟩, X⟩ := R
        dsimp only at h1 h2 h3 kp kq kO hb hXok
        subst h1
        have hvv : (!(v.toList == v.toList)) = false := toList_bne v
        have hix : (0 : Int) ≤ a.n ∧ a.n < (N.length : Int) ∧ flat sC N ≠ [] := by rw [hm]; exact ix_ok sC_len (by decide) (by omega)
        have hel : Elem (flat sC N) [.str] (a.n.toNat * 1) 1 [sD p] := by rw [hm]; exact sE hp
        cases ok with
        | false =>
          simp only [Bool.false_eq_true, if_false] at h2
          repeat (first | refine W.ite_t rfl ?_ | refine W.ite_f rfl ?_ | refine W.need (by decide) ?_ | refine W.need hix ?_)
          refine W.ld hel ?_
          refine W.callT [0] kp (by decide) rfl rfl rfl rfl ?_
          rintro w σ ⟨rfl, rfl⟩
          repeat (first | refine W.ite_t rfl ?_ | refine W.ite_f rfl ?_ | refine W.need (by decide) ?_ | refine W.need hix ?_)
          refine W.ld hel ?_
          refine W.both ?_ ?_
          · skip
            repeat (first | refine W.ite_t rfl ?_ | refine W.ite_f rfl ?_ | refine W.need (by decide) ?_ | refine W.pure kq rfl rfl ?_ | refine W.pure kO rfl rfl ?_ | refine W.ite_f hvv ?_)
            have hT := Half.tail h2
            obtain ⟨t1, t2, t3, t4⟩ := hT
            have kT := ok16 X
            have kR := ok15 X hXok
            have kS : Go.Am.Pure Tryd.prog 12 [slS C, .d (.sl (C).length ((flat sC Q).take ((C).length * 1)))] (bI true) := by
              rw [flat_take sC_len, t4]; exact ok12 C (by omega)
            repeat (first | refine W.ite_t rfl ?_ | refine W.ite_f rfl ?_ | refine W.need (by decide) ?_ | refine W.ite_f t1 ?_ | refine W.ite_f t2 ?_ | refine W.need ⟨Int.natCast_nonneg _, Int.ofNat_le.2 t3⟩ ?_ | refine W.pure kT rfl rfl ?_ | refine W.pure kR rfl rfl ?_ | refine W.pure kS rfl rfl ?_)
            refine W.ret ⟨_, _, _, ?_, Trim.of [0, 3, 4, 5, 6, 7, 8] [0, 1, 2, 3, 4] (by decide) (by show ∀ i ∈ [0, 1, 2, 3, 4], i < 7; simp) keep5, i + 1, X, F, M, N, P, Q, C, D, ?_, rfl, by omega, ⟨h3, h2, hb, bf.next, by omega, by omega, by omega, by omega⟩, rfl⟩
            · omega
            · rw [← g4]; rfl
          · skip
            repeat (first | refine W.ite_t rfl ?_ | refine W.ite_f rfl ?_ | refine W.need (by decide) ?_ | refine W.pure kq rfl rfl ?_ | refine W.pure kO rfl rfl ?_ | refine W.ite_f hvv ?_)
            have hT := Half.tail h2
            obtain ⟨t1, t2, t3, t4⟩ := hT
            have kT := ok16 X
            have kR := ok15 X hXok
            have kS : Go.Am.Pure Tryd.prog 12 [slS C, .d (.sl (C).length ((flat sC Q).take ((C).length * 1)))] (bI true) := by
              rw [flat_take sC_len, t4]; exact ok12 C (by omega)
            repeat (first | refine W.ite_t rfl ?_ | refine W.ite_f rfl ?_ | refine W.need (by decide) ?_ | refine W.ite_f t1 ?_ | refine W.ite_f t2 ?_ | refine W.need ⟨Int.natCast_nonneg _, Int.ofNat_le.2 t3⟩ ?_ | refine W.pure kT rfl rfl ?_ | refine W.pure kR rfl rfl ?_ | refine W.pure kS rfl rfl ?_)
            refine W.ret ⟨_, _, _, ?_, Trim.of [0, 3, 4, 5, 6, 7, 8] [0, 1, 2, 3, 4] (by decide) (by show ∀ i ∈ [0, 1, 2, 3, 4], i < 7; simp) keep5, i + 1, X, F, M, N, P, Q, C, D, ?_, rfl, by omega, ⟨h3, h2, hb, bf.next, by omega, by omega, by omega, by omega⟩, rfl⟩
            · omega
            · rw [← g4]; rfl
        | true =>
          simp only [if_true] at h2
          repeat (first | refine W.ite_t rfl ?_ | refine W.ite_f rfl ?_ | refine W.need (by decide) ?_ | refine W.need hix ?_)
          refine W.ld hel ?_
          refine W.callT [0] kp (by decide) rfl rfl rfl rfl ?_
          rintro w σ ⟨rfl, rfl⟩
          repeat (first | refine W.ite_t rfl ?_ | refine W.ite_f rfl ?_ | refine W.need (by decide) ?_ | refine W.need hix ?_)
          refine W.ld hel ?_
          refine W.both ?_ ?_
          · skip
            repeat (first | refine W.ite_t rfl ?_ | refine W.ite_f rfl ?_ | refine W.need (by decide) ?_ | refine W.pure kq rfl rfl ?_ | refine W.pure kO rfl rfl ?_ | refine W.ite_f hvv ?_)
            refine W.need ⟨rfl, rfl, by rw [sl_len]; simp, by omega, by omega, flat_one sC_one C⟩ ?_
            refine W.alt_l ?_
            refine W.need ⟨rfl, rfl, rfl, by omega, by omega, by intro c hc; obtain rfl := List.mem_singleton.1 hc; rfl⟩ ?_
            repeat (first | refine W.ite_t rfl ?_ | refine W.ite_f rfl ?_ | refine W.need (by decide) ?_)
            have hT := Half.tail h2
            obtain ⟨t1, t2, t3, t4⟩ := hT
            have el : (C ++ [v]).length = 0 + C.length + 1 := by simp
            have kS : Go.Am.Pure Tryd.prog 12 [.d (Go.Am.D.sl (0 + C.length + 1) ((([] ++ flat sC C) ++ [sD v]).take ((0 + C.length + 1) * 1))), .d (.sl (0 + C.length + 1) ((flat sC Q).take ((0 + C.length + 1) * 1)))] (bI true) := by
              have e : Go.Am.D.sl (0 + C.length + 1) ((([] ++ flat sC C) ++ [sD v]).take ((0 + C.length + 1) * 1)) = .sl (C ++ [v]).length (flat sC (C ++ [v])) := snoc2 C [v]
              rw [e, ← el, flat_take sC_len, t4]; exact ok12 (C ++ [v]) (by rw [el]; omega)
            rw [el] at t1 t2 t3
            have kT := ok16 X
            have kR := ok15 X hXok
            repeat (first | refine W.ite_t rfl ?_ | refine W.ite_f rfl ?_ | refine W.need (by decide) ?_ | refine W.ite_f t1 ?_ | refine W.ite_f t2 ?_ | refine W.need ⟨Int.natCast_nonneg _, Int.ofNat_le.2 t3⟩ ?_ | refine W.pure kT rfl rfl ?_ | refine W.pure kR rfl rfl ?_)
            refine W.callT [] kS (by decide) rfl rfl rfl rfl ?_
            rintro w σ ⟨rfl, rfl⟩
            repeat (first | refine W.ite_t rfl ?_ | refine W.ite_f rfl ?_ | refine W.need (by decide) ?_ | refine W.ite_f t1 ?_ | refine W.ite_f t2 ?_ | refine W.need ⟨Int.natCast_nonneg _, Int.ofNat_le.2 t3⟩ ?_ | refine W.pure kT rfl rfl ?_ | refine W.pure kR rfl rfl ?_)
            refine W.ret ⟨_, _, _, ?_, Trim.of [0, 3, 4, 5, 6, 7, 8] [0, 1, 2, 3, 4] (by decide) (fun j hj => Nat.lt_of_lt_of_le (show j < 5 by simp at hj; omega) (Nat.le_add_left _ _)) keep5, i + 1, X, F, M, N, P, Q, (C ++ [v]), D, ?_, ?_, by omega, ⟨h3, h2, hb, bf.next, by omega, by omega, by omega, by omega⟩, rfl⟩
            · omega
            · rw [← g4]; rfl
            · have e := snoc2 C [v]
              simp only [st5, prL, slS, slF]
              rw [← e]
              rfl
          · skip
            repeat (first | refine W.ite_t rfl ?_ | refine W.ite_f rfl ?_ | refine W.need (by decide) ?_ | refine W.pure kq rfl rfl ?_ | refine W.pure kO rfl rfl ?_ | refine W.ite_f hvv ?_)
            refine W.need ⟨rfl, rfl, by rw [sl_len]; simp, by omega, by omega, flat_one sC_one C⟩ ?_
            refine W.alt_l ?_
            refine W.need ⟨rfl, rfl, rfl, by omega, by omega, by intro c hc; obtain rfl := List.mem_singleton.1 hc; rfl⟩ ?_
            repeat (first | refine W.ite_t rfl ?_ | refine W.ite_f rfl ?_ | refine W.need (by decide) ?_)
            have hT := Half.tail h2
            obtain ⟨t1, t2, t3, t4⟩ := hT
            have el : (C ++ [v]).length = 0 + C.length + 1 := by simp
            have kS : Go.Am.Pure Tryd.prog 12 [.d (Go.Am.D.sl (0 + C.length + 1) ((([] ++ flat sC C) ++ [sD v]).take ((0 + C.length + 1) * 1))), .d (.sl (0 + C.length + 1) ((flat sC Q).take ((0 + C.length + 1) * 1)))] (bI true) := by
              have e : Go.Am.D.sl (0 + C.length + 1) ((([] ++ flat sC C) ++ [sD v]).take ((0 + C.length + 1) * 1)) = .sl (C ++ [v]).length (flat sC (C ++ [v])) := snoc2 C [v]
              rw [e, ← el, flat_take sC_len, t4]; exact ok12 (C ++ [v]) (by rw [el]; omega)
            rw [el] at t1 t2 t3
            have kT := ok16 X
            have kR := ok15 X hXok
            repeat (first | refine W.ite_t rfl ?_ | refine W.ite_f rfl ?_ | refine W.need (by decide) ?_ | refine W.ite_f t1 ?_ | refine W.ite_f t2 ?_ | refine W.need ⟨Int.natCast_nonneg _, Int.ofNat_le.2 t3⟩ ?_ | refine W.pure kT rfl rfl ?_ | refine W.pure kR rfl rfl ?_)
            refine W.callT [] kS (by decide) rfl rfl rfl rfl ?_
            rintro w σ ⟨rfl, rfl⟩
            repeat (first | refine W.ite_t rfl ?_ | refine W.ite_f rfl ?_ | refine W.need (by decide) ?_ | refine W.ite_f t1 ?_ | refine W.ite_f t2 ?_ | refine W.need ⟨Int.natCast_nonneg _, Int.ofNat_le.2 t3⟩ ?_ | refine W.pure kT rfl rfl ?_ | refine W.pure kR rfl rfl ?_)
            refine W.ret ⟨_, _, _, ?_, Trim.of [0, 3, 4, 5, 6, 7, 8] [0, 1, 2, 3, 4] (by decide) (fun j hj => Nat.lt_of_lt_of_le (show j < 5 by simp at hj; omega) (Nat.le_add_left _ _)) keep5, i + 1, X, F, M, N, P, Q, (C ++ [v]), D, ?_, ?_, by omega, ⟨h3, h2, hb, bf.next, by omega, by omega, by omega, by omega⟩, rfl⟩
            · omega
            · rw [← g4]; rfl
            · have e := snoc2 C [v]
              simp only [st5, prL, slS, slF]
              rw [← e]
              rfl
      have d3 : (a.k == 3) = false := by rw [beq_eq_false_iff_ne]; exact k3
      refine W.ite_f d1 ?_
      refine W.ite_f d2 ?_
      refine W.ite_f d3 ?_
      have hXok := hEok
      have hT := Half.tail fe
      obtain ⟨t1, t2, t3, t4⟩ := hT
      have kT := ok16 E
      have kR := ok15 E hXok
      have kS : Go.Am.Pure Tryd.prog 12 [slS C, .d (.sl (C).length ((flat sC Q).take ((C).length * 1)))] (bI true) := by
        rw [flat_take sC_len, t4]; exact ok12 C (by omega)
      repeat (first | refine W.ite_t rfl ?_ | refine W.ite_f rfl ?_ | refine W.need (by decide) ?_ | refine W.ite_f t1 ?_ | refine W.ite_f t2 ?_ | refine W.need ⟨Int.natCast_nonneg _, Int.ofNat_le.2 t3⟩ ?_ | refine W.pure kT rfl rfl ?_ | refine W.pure kR rfl rfl ?_ | refine W.pure kS rfl rfl ?_)
      refine W.ret ⟨_, _, _, ?_, Trim.of [0, 3, 4, 5, 6, 7, 8] [0, 1, 2, 3, 4] (by decide) (by show ∀ i ∈ [0, 1, 2, 3, 4], i < 6; simp) keep5, i + 1, E, F, M, N, P, Q, C, D, ?_, rfl, by omega, ⟨ef, fe, be.next, bf.next, by omega, by omega, by omega, by omega⟩, rfl⟩
      · omega
      · rw [← g4]; rfl
    | true =>
      refine W.ite_t rfl ?_
      by_cases k1 : a.k = 1
      · have d1 : (a.k == 1) = true := by rw [beq_iff_eq]; exact k1
        refine W.ite_t d1 ?_
        have kp := okB7 F E hFok s
        have kq := ok8 F hFok s
        have kO := okOfPush F s
        have hb := bf.push s
        rcases push_cases F s with hpc | hpc | hpc
        · rw [hpc] at kp kq kO hb
          rw [errC_ne (show (1 : Int) ≠ 0 by decide)] at kp kO
          refine W.need (by decide) ?_
          refine W.callT [0] kp (by decide) rfl rfl rfl rfl ?_
          rintro v σ ⟨rfl, rfl⟩
          refine W.need (by decide) ?_
          refine W.both ?_ ?_
          · skip
            repeat (first | refine W.ite_t rfl ?_ | refine W.ite_f rfl ?_ | refine W.need (by decide) ?_ | refine W.pure kq rfl rfl ?_ | refine W.pure kO rfl rfl ?_)
            have hXok := hFok
            have hT := Half.tail ef
            obtain ⟨t1, t2, t3, t4⟩ := hT
            have kT := ok16 F
            have kR := ok15 F hXok
            have kS : Go.Am.Pure Tryd.prog 12 [slS D, .d (.sl (D).length ((flat sC P).take ((D).length * 1)))] (bI true) := by
              rw [flat_take sC_len, t4]; exact ok12 D (by omega)
            repeat (first | refine W.ite_t rfl ?_ | refine W.ite_f rfl ?_ | refine W.need (by decide) ?_ | refine W.ite_f t1 ?_ | refine W.ite_f t2 ?_ | refine W.need ⟨Int.natCast_nonneg _, Int.ofNat_le.2 t3⟩ ?_ | refine W.pure kT rfl rfl ?_ | refine W.pure kR rfl rfl ?_ | refine W.pure kS rfl rfl ?_)
            refine W.ret ⟨_, _, _, ?_, Trim.of [0, 3, 4, 5, 6, 7, 8] [0, 1, 2, 3, 4] (by decide) (by show ∀ i ∈ [0, 1, 2, 3, 4], i < 7; simp) keep5, i + 1, E, F, M, N, P, Q, C, D, ?_, ?_, by omega, ⟨ef, fe, be.next, bf.next, by omega, by omega, by omega, by omega⟩, rfl⟩
            · omega
            · rw [← g4]; rfl
            · rfl
          · skip
            repeat (first | refine W.ite_t rfl ?_ | refine W.ite_f rfl ?_ | refine W.need (by decide) ?_ | refine W.pure kq rfl rfl ?_ | refine W.pure kO rfl rfl ?_)
            have hXok := hFok
            have hT := Half.tail ef
            obtain ⟨t1, t2, t3, t4⟩ := hT
            have kT := ok16 F
            have kR := ok15 F hXok
            have kS : Go.Am.Pure Tryd.prog 12 [slS D, .d (.sl (D).length ((flat sC P).take ((D).length * 1)))] (bI true) := by
              rw [flat_take sC_len, t4]; exact ok12 D (by omega)
            repeat (first | refine W.ite_t rfl ?_ | refine W.ite_f rfl ?_ | refine W.need (by decide) ?_ | refine W.ite_f t1 ?_ | refine W.ite_f t2 ?_ | refine W.need ⟨Int.natCast_nonneg _, Int.ofNat_le.2 t3⟩ ?_ | refine W.pure kT rfl rfl ?_ | refine W.pure kR rfl rfl ?_ | refine W.pure kS rfl rfl ?_)
            refine W.ret ⟨_, _, _, ?_, Trim.of [0, 3, 4, 5, 6, 7, 8] [0, 1, 2, 3, 4] (by decide) (by show ∀ i ∈ [0, 1, 2, 3, 4], i < 7; simp) keep5, i + 1, E, F, M, N, P, Q, C, D, ?_, ?_, by omega, ⟨ef, fe, be.next, bf.next, by omega, by omega, by omega, by omega⟩, rfl⟩
            · omega
            · rw [← g4]; rfl
            · rfl
        · rw [hpc] at kp kq kO hb
          rw [errC_ne (show (4 : Int) ≠ 0 by decide)] at kp kO
          refine W.need (by decide) ?_
          refine W.callT [0] kp (by decide) rfl rfl rfl rfl ?_
          rintro v σ ⟨rfl, rfl⟩
          refine W.need (by decide) ?_
          refine W.both ?_ ?_
          · skip
            repeat (first | refine W.ite_t rfl ?_ | refine W.ite_f rfl ?_ | refine W.need (by decide) ?_ | refine W.pure kq rfl rfl ?_ | refine W.pure kO rfl rfl ?_)
            have hXok := hFok
            have hT := Half.tail ef
            obtain ⟨t1, t2, t3, t4⟩ := hT
            have kT := ok16 F
            have kR := ok15 F hXok
            have kS : Go.Am.Pure Tryd.prog 12 [slS D, .d (.sl (D).length ((flat sC P).take ((D).length * 1)))] (bI true) := by
              rw [flat_take sC_len, t4]; exact ok12 D (by omega)
            repeat (first | refine W.ite_t rfl ?_ | refine W.ite_f rfl ?_ | refine W.need (by decide) ?_ | refine W.ite_f t1 ?_ | refine W.ite_f t2 ?_ | refine W.need ⟨Int.natCast_nonneg _, Int.ofNat_le.2 t3⟩ ?_ | refine W.pure kT rfl rfl ?_ | refine W.pure kR rfl rfl ?_ | refine W.pure kS rfl rfl ?_)
            refine W.ret ⟨_, _, _, ?_, Trim.of [0, 3, 4, 5, 6, 7, 8] [0, 1, 2, 3, 4] (by decide) (by show ∀ i ∈ [0, 1, 2, 3, 4], i < 7; simp) keep5, i + 1, E, F, M, N, P, Q, C, D, ?_, ?_, by omega, ⟨ef, fe, be.next, bf.next, by omega, by omega, by omega, by omega⟩, rfl⟩
            · omega
            · rw [← g4]; rfl
            · rfl
          · skip
            repeat (first | refine W.ite_t rfl ?_ | refine W.ite_f rfl ?_ | refine W.need (by decide) ?_ | refine W.pure kq rfl rfl ?_ | refine W.pure kO rfl rfl ?_)
            have hXok := hFok
            have hT := Half.tail ef
            obtain ⟨t1, t2, t3, t4⟩ := hT
            have kT := ok16 F
            have kR := ok15 F hXok
            have kS : Go.Am.Pure Tryd.prog 12 [slS D, .d (.sl (D).length ((flat sC P).take ((D).length * 1)))] (bI true) := by
              rw [flat_take sC_len, t4]; exact ok12 D (by omega)
            repeat (first | refine W.ite_t rfl ?_ | refine W.ite_f rfl ?_ | refine W.need (by decide) ?_ | refine W.ite_f t1 ?_ | refine W.ite_f t2 ?_ | refine W.need ⟨Int.natCast_nonneg _, Int.ofNat_le.2 t3⟩ ?_ | refine W.pure kT rfl rfl ?_ | refine W.pure kR rfl rfl ?_ | refine W.pure kS rfl rfl ?_)
            refine W.ret ⟨_, _, _, ?_, Trim.of [0, 3, 4, 5, 6, 7, 8] [0, 1, 2, 3, 4] (by decide) (by show ∀ i ∈ [0, 1, 2, 3, 4], i < 7; simp) keep5, i + 1, E, F, M, N, P, Q, C, D, ?_, ?_, by omega, ⟨ef, fe, be.next, bf.next, by omega, by omega, by omega, by omega⟩, rfl⟩
            · omega
            · rw [← g4]; rfl
            · rfl
        · rw [hpc] at kp kq kO hb
          rw [errC0] at kp kO
          refine W.need (by decide) ?_
          refine W.callT [0] kp (by decide) rfl rfl rfl rfl ?_
          rintro v σ ⟨rfl, rfl⟩
          refine W.need (by decide) ?_
          have hs1970 : s.size ≤ 1970 := hb.s s (List.mem_append_right _ (List.mem_singleton.2 rfl))
          have hH := fe.push s hs1970 (by omega)
          have hG := ef.recv (R' := { F with q := F.q ++ [s] }) rfl
          have hXok := hb.ok (by omega)
          refine W.both ?_ ?_
          · skip
            repeat (first | refine W.ite_t rfl ?_ | refine W.ite_f rfl ?_ | refine W.need (by decide) ?_ | refine W.pure kq rfl rfl ?_ | refine W.pure kO rfl rfl ?_)
            refine W.both (W.both ?_ ?_) ?_
            · refine W.alt_l ?_
              refine W.need ⟨rfl, rfl, by rw [sl_len]; simp, by omega, by omega, flat_one sC_one Q⟩ ?_
              refine W.need ⟨rfl, rfl, rfl, by omega, by omega, by intro c hc; obtain rfl := List.mem_singleton.1 hc; rfl⟩ ?_
              repeat (first | refine W.ite_t rfl ?_ | refine W.ite_f rfl ?_ | refine W.need (by decide) ?_)
              have hT := Half.tail hG
              obtain ⟨t1, t2, t3, t4⟩ := hT
              have kT := ok16 { F with q := F.q ++ [s] }
              have kR := ok15 { F with q := F.q ++ [s] } hXok
              have kS : Go.Am.Pure Tryd.prog 12 [slS D, .d (.sl (D).length ((flat sC P).take ((D).length * 1)))] (bI true) := by
                rw [flat_take sC_len, t4]; exact ok12 D (by omega)
              repeat (first | refine W.ite_t rfl ?_ | refine W.ite_f rfl ?_ | refine W.need (by decide) ?_ | refine W.ite_f t1 ?_ | refine W.ite_f t2 ?_ | refine W.need ⟨Int.natCast_nonneg _, Int.ofNat_le.2 t3⟩ ?_ | refine W.pure kT rfl rfl ?_ | refine W.pure kR rfl rfl ?_ | refine W.pure kS rfl rfl ?_)
              refine W.ret ⟨_, _, _, ?_, Trim.of [0, 3, 4, 5, 6, 7, 8] [0, 1, 2, 3, 4] (by decide) (fun j hj => Nat.lt_of_lt_of_le (show j < 5 by simp at hj; omega) (Nat.le_add_left _ _)) keep5, i + 1, E, ({ F with q := F.q ++ [s] }), M, N, P, (Q ++ [s]), C, D, ?_, ?_, by omega, ⟨hG, hH, be.next, hb, by omega, by simp only [List.length_append, List.length_singleton]; omega, by omega, by omega⟩, rfl⟩
              · omega
              · rw [← g4]; rfl
              · have e := snoc2 Q [s]
                simp only [st5, prL, slS, slF]
                rw [← e]
                rfl
            · refine W.need ⟨rfl, rfl, by rw [sl_len]; simp, by omega, by omega, flat_one sC_one Q⟩ ?_
              refine W.alt_l ?_
              refine W.need ⟨rfl, rfl, rfl, by omega, by omega, by intro c hc; obtain rfl := List.mem_singleton.1 hc; rfl⟩ ?_
              repeat (first | refine W.ite_t rfl ?_ | refine W.ite_f rfl ?_ | refine W.need (by decide) ?_)
              have hT := Half.tail hG
              obtain ⟨t1, t2, t3, t4⟩ := hT
              have kT := ok16 { F with q := F.q ++ [s] }
              have kR := ok15 { F with q := F.q ++ [s] } hXok
              have kS : Go.Am.Pure Tryd.prog 12 [slS D, .d (.sl (D).length ((flat sC P).take ((D).length * 1)))] (bI true) := by
                rw [flat_take sC_len, t4]; exact ok12 D (by omega)
              repeat (first | refine W.ite_t rfl ?_ | refine W.ite_f rfl ?_ | refine W.need (by decide) ?_ | refine W.ite_f t1 ?_ | refine W.ite_f t2 ?_ | refine W.need ⟨Int.natCast_nonneg _, Int.ofNat_le.2 t3⟩ ?_ | refine W.pure kT rfl rfl ?_ | refine W.pure kR rfl rfl ?_ | refine W.pure kS rfl rfl ?_)
              refine W.ret ⟨_, _, _, ?_, Trim.of [0, 3, 4, 5, 6, 7, 8] [0, 1, 2, 3, 4] (by decide) (fun j hj => Nat.lt_of_lt_of_le (show j < 5 by simp at hj; omega) (Nat.le_add_left _ _)) keep5, i + 1, E, ({ F with q := F.q ++ [s] }), M, N, P, (Q ++ [s]), C, D, ?_, ?_, by omega, ⟨hG, hH, be.next, hb, by omega, by simp only [List.length_append, List.length_singleton]; omega, by omega, by omega⟩, rfl⟩
              · omega
              · rw [← g4]; rfl
              · have e := snoc2 Q [s]
                simp only [st5, prL, slS, slF]
                rw [← e]
                rfl
            · refine W.alt_l ?_
              refine W.need ⟨rfl, rfl, by rw [sl_len]; simp, by omega, by omega, flat_one sC_one Q⟩ ?_
              refine W.need ⟨rfl, rfl, rfl, by omega, by omega, by intro c hc; obtain rfl := List.mem_singleton.1 hc; rfl⟩ ?_
              repeat (first | refine W.ite_t rfl ?_ | refine W.ite_f rfl ?_ | refine W.need (by decide) ?_)
              have hT := Half.tail hG
              obtain ⟨t1, t2, t3, t4⟩ := hT
              have kT := ok16 { F with q := F.q ++ [s] }
              have kR := ok15 { F with q := F.q ++ [s] } hXok
              have kS : Go.Am.Pure Tryd.prog 12 [slS D, .d (.sl (D).length ((flat sC P).take ((D).length * 1)))] (bI true) := by
                rw [flat_take sC_len, t4]; exact ok12 D (by omega)
              repeat (first | refine W.ite_t rfl ?_ | refine W.ite_f rfl ?_ | refine W.need (by decide) ?_ | refine W.ite_f t1 ?_ | refine W.ite_f t2 ?_ | refine W.need ⟨Int.natCast_nonneg _, Int.ofNat_le.2 t3⟩ ?_ | refine W.pure kT rfl rfl ?_ | refine W.pure kR rfl rfl ?_ | refine W.pure kS rfl rfl ?_)
              refine W.ret ⟨_, _, _, ?_, Trim.of [0, 3, 4, 5, 6, 7, 8] [0, 1, 2, 3, 4] (by decide) (fun j hj => Nat.lt_of_lt_of_le (show j < 5 by simp at hj; omega) (Nat.le_add_left _ _)) keep5, i + 1, E, ({ F with q := F.q ++ [s] }), M, N, P, (Q ++ [s]), C, D, ?_, ?_, by omega, ⟨hG, hH, be.next, hb, by omega, by simp only [List.length_append, List.length_singleton]; omega, by omega, by omega⟩, rfl⟩
              · omega
              · rw [← g4]; rfl
              · have e := snoc2 Q [s]
                simp only [st5, prL, slS, slF]
                rw [← e]
                rfl
          · skip
            repeat (first | refine W.ite_t rfl ?_ | refine W.ite_f rfl ?_ | refine W.need (by decide) ?_ | refine W.pure kq rfl rfl ?_ | refine W.pure kO rfl rfl ?_)
            refine W.both (W.both ?_ ?_) ?_
            · refine W.alt_l ?_
              refine W.need ⟨rfl, rfl, by rw [sl_len]; simp, by omega, by omega, flat_one sC_one Q⟩ ?_
              refine W.need ⟨rfl, rfl, rfl, by omega, by omega, by intro c hc; obtain rfl := List.mem_singleton.1 hc; rfl⟩ ?_
              repeat (first | refine W.ite_t rfl ?_ | refine W.ite_f rfl ?_ | refine W.need (by decide) ?_)
              have hT := Half.tail hG
              obtain ⟨t1, t2, t3, t4⟩ := hT
              have kT := ok16 { F with q := F.q ++ [s] }
              have kR := ok15 { F with q := F.q ++ [s] } hXok
              have kS : Go.Am.Pure Tryd.prog 12 [slS D, .d (.sl (D).length ((flat sC P).take ((D).length * 1)))] (bI true) := by
                rw [flat_take sC_len, t4]; exact ok12 D (by omega)
              repeat (first | refine W.ite_t rfl ?_ | refine W.ite_f rfl ?_ | refine W.need (by decide) ?_ | refine W.ite_f t1 ?_ | refine W.ite_f t2 ?_ | refine W.need ⟨Int.natCast_nonneg _, Int.ofNat_le.2 t3⟩ ?_ | refine W.pure kT rfl rfl ?_ | refine W.pure kR rfl rfl ?_ | refine W.pure kS rfl rfl ?_)
              refine W.ret ⟨_, _, _, ?_, Trim.of [0, 3, 4, 5, 6, 7, 8] [0, 1, 2, 3, 4] (by decide) (fun j hj => Nat.lt_of_lt_of_le (show j < 5 by simp at hj; omega) (Nat.le_add_left _ _)) keep5, i + 1, E, ({ F with q := F.q ++ [s] }), M, N, P, (Q ++ [s]), C, D, ?_, ?_, by omega, ⟨hG, hH, be.next, hb, by omega, by simp only [List.length_append, List.length_singleton]; omega, by omega, by omega⟩, rfl⟩
              · omega
              · rw [← g4]; rfl
              · have e := snoc2 Q [s]
                simp only [st5, prL, slS, slF]
                rw [← e]
                rfl
            · refine W.need ⟨rfl, rfl, by rw [sl_len]; simp, by omega, by omega, flat_one sC_one Q⟩ ?_
              refine W.alt_l ?_
              refine W.need ⟨rfl, rfl, rfl, by omega, by omega, by intro c hc; obtain rfl := List.mem_singleton.1 hc; rfl⟩ ?_
              repeat (first | refine W.ite_t rfl ?_ | refine W.ite_f rfl ?_ | refine W.need (by decide) ?_)
              have hT := Half.tail hG
              obtain ⟨t1, t2, t3, t4⟩ := hT
              have kT := ok16 { F with q := F.q ++ [s] }
              have kR := ok15 { F with q := F.q ++ [s] } hXok
              have kS : Go.Am.Pure Tryd.prog 12 [slS D, .d (.sl (D).length ((flat sC P).take ((D).length * 1)))] (bI true) := by
                rw [flat_take sC_len, t4]; exact ok12 D (by omega)
              repeat (first | refine W.ite_t rfl ?_ | refine W.ite_f rfl ?_ | refine W.need (by decide) ?_ | refine W.ite_f t1 ?_ | refine W.ite_f t2 ?_ | refine W.need ⟨Int.natCast_nonneg _, Int.ofNat_le.2 t3⟩ ?_ | refine W.pure kT rfl rfl ?_ | refine W.pure kR rfl rfl ?_ | refine W.pure kS rfl rfl ?_)
              refine W.ret ⟨_, _, _, ?_, Trim.of [0, 3, 4, 5, 6, 7, 8] [0, 1, 2, 3, 4] (by decide) (fun j hj => Nat.lt_of_lt_of_le (show j < 5 by simp at hj; omega) (Nat.le_add_left _ _)) keep5, i + 1, E, ({ F with q := F.q ++ [s] }), M, N, P, (Q ++ [s]), C, D, ?_, ?_, by omega, ⟨hG, hH, be.next, hb, by omega, by simp only [List.length_append, List.length_singleton]; omega, by omega, by omega⟩, rfl⟩
              · omega
              · rw [← g4]; rfl
              · have e := snoc2 Q [s]
                simp only [st5, prL, slS, slF]
                rw [← e]
                rfl
            · refine W.alt_l ?_
              refine W.need ⟨rfl, rfl, by rw [sl_len]; simp, by omega, by omega, flat_one sC_one Q⟩ ?_
              refine W.need ⟨rfl, rfl, rfl, by omega, by omega, by intro c hc; obtain rfl := List.mem_singleton.1 hc; rfl⟩ ?_
              repeat (first | refine W.ite_t rfl ?_ | refine W.ite_f rfl ?_ | refine W.need (by decide) ?_)
              have hT := Half.tail hG
              obtain ⟨t1, t2, t3, t4⟩ := hT
              have kT := ok16 { F with q := F.q ++ [s] }
              have kR := ok15 { F with q := F.q ++ [s] } hXok
              have kS : Go.Am.Pure Tryd.prog 12 [slS D, .d (.sl (D).length ((flat sC P).take ((D).length * 1)))] (bI true) := by
                rw [flat_take sC_len, t4]; exact ok12 D (by omega)
              repeat (first | refine W.ite_t rfl ?_ | refine W.ite_f rfl ?_ | refine W.need (by decide) ?_ | refine W.ite_f t1 ?_ | refine W.ite_f t2 ?_ | refine W.need ⟨Int.natCast_nonneg _, Int.ofNat_le.2 t3⟩ ?_ | refine W.pure kT rfl rfl ?_ | refine W.pure kR rfl rfl ?_ | refine W.pure kS rfl rfl ?_)
              refine W.ret ⟨_, _, _, ?_, Trim.of [0, 3, 4, 5, 6, 7, 8] [0, 1, 2, 3, 4] (by decide) (fun j hj => Nat.lt_of_lt_of_le (show j < 5 by simp at hj; omega) (Nat.le_add_left _ _)) keep5, i + 1, E, ({ F with q := F.q ++ [s] }), M, N, P, (Q ++ [s]), C, D, ?_, ?_, by omega, ⟨hG, hH, be.next, hb, by omega, by simp only [List.length_append, List.length_singleton]; omega, by omega, by omega⟩, rfl⟩
              · omega
              · rw [← g4]; rfl
              · have e := snoc2 Q [s]
                simp only [st5, prL, slS, slF]
                rw [← e]
                rfl
      have d1 : (a.k == 1) = false := by rw [beq_eq_false_iff_ne]; exact k1
      by_cases k2 : a.k = 2
      · have d2 : (a.k == 2) = true := by rw [beq_iff_eq]; exact k2
        refine W.ite_f d1 ?_
        refine W.ite_t d2 ?_
        have kp := okB10 F E hFok
        have kq := ok11 F hFok
        have hpl := packets_len F
        have kSm := ok12 (packets F) (by omega)
        have hH := fe.packets
        have hG := ef.recv (R' := { F with o := false }) rfl
        have hb := bf.quiet
        have hXok := hb.ok (by omega)
        generalize packets F = L at *
        refine W.need (by decide) ?_
        refine W.callT [0] kp (by decide) rfl rfl rfl rfl ?_
        rintro v σ ⟨rfl, rfl⟩
        repeat (first | refine W.ite_t rfl ?_ | refine W.ite_f rfl ?_ | refine W.need (by decide) ?_ | refine W.pure kq rfl rfl ?_ | refine W.pure kSm rfl rfl ?_)
        refine W.need ⟨rfl, rfl, by rw [sl_len]; simp, by omega, by omega, flat_one sC_one N⟩ ?_
        refine W.need ⟨rfl, rfl, by rw [sl_len]; simp, by omega, by omega, flat_one sC_one L⟩ ?_
        repeat (first | refine W.ite_t rfl ?_ | refine W.ite_f rfl ?_ | refine W.need (by decide) ?_)
        have hT := Half.tail hG
        obtain ⟨t1, t2, t3, t4⟩ := hT
        have kT := ok16 { F with o := false }
        have kR := ok15 { F with o := false } hXok
        have kS : Go.Am.Pure Tryd.prog 12 [slS D, .d (.sl (D).length ((flat sC P).take ((D).length * 1)))] (bI true) := by
          rw [flat_take sC_len, t4]; exact ok12 D (by omega)
        repeat (first | refine W.ite_t rfl ?_ | refine W.ite_f rfl ?_ | refine W.need (by decide) ?_ | refine W.ite_f t1 ?_ | refine W.ite_f t2 ?_ | refine W.need ⟨Int.natCast_nonneg _, Int.ofNat_le.2 t3⟩ ?_ | refine W.pure kT rfl rfl ?_ | refine W.pure kR rfl rfl ?_ | refine W.pure kS rfl rfl ?_)
        refine W.ret ⟨_, _, _, ?_, Trim.of [0, 3, 4, 5, 6, 7, 8] [0, 1, 2, 3, 4] (by decide) (fun j hj => Nat.lt_of_lt_of_le (show j < 5 by simp at hj; omega) (Nat.le_add_left _ _)) keep5, i + 1, E, ({ F with o := false }), M, (N ++ L), P, Q, C, D, ?_, ?_, by omega, ⟨hG, hH, be.next, hb, by omega, by omega, by omega, by simp only [List.length_append]; omega⟩, rfl⟩
        · omega
        · rw [← g4]; rfl
        · have e := snoc2 N L
          simp only [st5, prL, slS, slF]
          rw [← e]
          rfl
      have d2 : (a.k == 2) = false := by rw [beq_eq_false_iff_ne]; exact k2
      by_cases k3 : a.k = 3
      · have d3 : (a.k == 3) = true := by rw [beq_iff_eq]; exact k3
        refine W.ite_f d1 ?_
        refine W.ite_f d2 ?_
        refine W.ite_t d3 ?_
        by_cases hneg : a.n < 0
        · have d4 : decide (a.n < 0) = true := decide_eq_true hneg
          iterate 9 (refine W.ite_t d4 ?_)
          refine ⟨?_⟩
          show Res.wp _ (codeR tys od3 (Code.exit 1) _ _ _) _
          refine (?_ : W Tryd.prog _ _).out
          refine W.ret ⟨_, _, _, ?_, Trim.of [0, 3, 4, 5, 6, 7, 8] [0, 1, 2, 3, 4] (by decide) (by show ∀ i ∈ [0, 1, 2, 3, 4], i < 6; simp) keep5, i + 1, E, F, M, N, P, Q, C, D, ?_, rfl, by omega, ⟨ef, fe, be.next, bf.next, by omega, by omega, by omega, by omega⟩, rfl⟩
          · omega
          · rw [← g4]; rfl
        have d4 : decide (a.n < 0) = false := decide_eq_false hneg
        obtain ⟨m, hm⟩ := Int.eq_ofNat_of_zero_le (show 0 ≤ a.n by omega)
        by_cases hbig : m ≥ M.length
        · have d5 : decide (a.n ≥ (M.length : Int)) = true := decide_eq_true (by omega)
          iterate 5 (refine W.ite_f d4 ?_)
          refine W.need (by decide) ?_
          iterate 4 (refine W.ite_f d4 ?_)
          show W _ (codeR tys od3 (Code.cond (Operand.tmp 131) _ _) ((131, AV.d (.lit (.bool (decide (a.n ≥ (M.length : Int)))))) :: _) _ _) _
          rw [d5]
          refine ⟨?_⟩
          show Res.wp _ (codeR tys od3 (Code.exit 1) _ _ _) _
          refine (?_ : W Tryd.prog _ _).out
          refine W.ret ⟨_, _, _, ?_, Trim.of [0, 3, 4, 5, 6, 7, 8] [0, 1, 2, 3, 4] (by decide) (by show ∀ i ∈ [0, 1, 2, 3, 4], i < 6; simp) keep5, i + 1, E, F, M, N, P, Q, C, D, ?_, rfl, by omega, ⟨ef, fe, be.next, bf.next, by omega, by omega, by omega, by omega⟩, rfl⟩
          · omega
          · rw [← g4]; rfl
        have d5 : decide (a.n ≥ (M.length : Int)) = false := decide_eq_false (by omega)
        iterate 5 (refine W.ite_f d4 ?_)
        refine W.need (by decide) ?_
        iterate 4 (refine W.ite_f d4 ?_)
        show W _ (codeR tys od3 (Code.cond (Operand.tmp 131) _ _) ((131, AV.d (.lit (.bool (decide (a.n ≥ (M.length : Int)))))) :: _) _ _) _
        rw [d5]
        refine ⟨?_⟩
        show Res.wp _ (codeR tys od3 Code.skip _ _ _) _
        refine (?_ : W Tryd.prog _ _).out
        obtain ⟨p, hp⟩ : ∃ p, M[m]? = some p := ⟨_, List.getElem?_eq_getElem (by omega)⟩
        have hpm := List.mem_of_getElem? hp
        obtain ⟨herr, hpz⟩ := (ef.made p hpm).err (by have := be.c; omega)
        obtain ⟨h1, h2, h3⟩ := ef.take fe hpm
        have kp := okB13 F E hFok p hpz
        have kq := ok14 F hFok p hpz
        have kO := okOfTake F p
        have hb := bf.take p
        have hXok := hb.ok (by omega)
        rw [herr] at kq kO
        generalize takeL F p = R at *
        obtain ⟨⟨v, ok, e⟩, X⟩ := R
        dsimp only at h1 h2 h3 kp kq kO hb hXok
        subst h1
        have hvv : (!(v.toList == v.toList)) = false := toList_bne v
        have hix : (0 : Int) ≤ a.n ∧ a.n < (M.length : Int) ∧ flat sC M ≠ [] := by rw [hm]; exact ix_ok sC_len (by decide) (by omega)
        have hel : Elem (flat sC M) [.str] (a.n.toNat * 1) 1 [sD p] := by rw [hm]; exact sE hp
        cases ok with
        | false =>
          simp only [Bool.false_eq_true, if_false] at h2
          repeat (first | refine W.ite_t rfl ?_ | refine W.ite_f rfl ?_ | refine W.need (by decide) ?_ | refine W.need hix ?_)
          refine W.ld hel ?_
          refine W.callT [0] kp (by decide) rfl rfl rfl rfl ?_
          rintro w σ ⟨rfl, rfl⟩
          repeat (first | refine W.ite_t rfl ?_ | refine W.ite_f rfl ?_ | refine W.need (by decide) ?_ | refine W.need hix ?_)
          refine W.ld hel ?_
          refine W.both ?_ ?_
          · skip
            repeat (first | refine W.ite_t rfl ?_ | refine W.ite_f rfl ?_ | refine W.need (by decide) ?_ | refine W.pure kq rfl rfl ?_ | refine W.pure kO rfl rfl ?_ | refine W.ite_f hvv ?_)
            have hT := Half.tail h2
            obtain ⟨t1, t2, t3, t4⟩ := hT
            have kT := ok16 X
            have kR := ok15 X hXok
            have kS : Go.Am.Pure Tryd.prog 12 [slS D, .d (.sl (D).length ((flat sC P).take ((D).length * 1)))] (bI true) := by
              rw [flat_take sC_len, t4]; exact ok12 D (by omega)
            repeat (first | refine W.ite_t rfl ?_ | refine W.ite_f rfl ?_ | refine W.need (by decide) ?_ | refine W.ite_f t1 ?_ | refine W.ite_f t2 ?_ | refine W.need ⟨Int.natCast_nonneg _, Int.ofNat_le.2 t3⟩ ?_ | refine W.pure kT rfl rfl ?_ | refine W.pure kR rfl rfl ?_ | refine W.pure kS rfl rfl ?_)
            refine W.ret ⟨_, _, _, ?_, Trim.of [0, 3, 4, 5, 6, 7, 8] [0, 1, 2, 3, 4] (by decide) (by show ∀ i ∈ [0, 1, 2, 3, 4], i < 7; simp) keep5, i + 1, E, X, M, N, P, Q, C, D, ?_, rfl, by omega, ⟨h2, h3, be.next, hb, by omega, by omega, by omega, by omega⟩, rfl⟩
            · omega
            · rw [← g4]; rfl
          · skip
            repeat (first | refine W.ite_t rfl ?_ | refine W.ite_f rfl ?_ | refine W.need (by decide) ?_ | refine W.pure kq rfl rfl ?_ | refine W.pure kO rfl rfl ?_ | refine W.ite_f hvv ?_)
            have hT := Half.tail h2
            obtain ⟨t1, t2, t3, t4⟩ := hT
            have kT := ok16 X
            have kR := ok15 X hXok
            have kS : Go.Am.Pure Tryd.prog 12 [slS D, .d (.sl (D).length ((flat sC P).take ((D).length * 1)))] (bI true) := by
              rw [flat_take sC_len, t4]; exact ok12 D (by omega)
            repeat (first | refine W.ite_t rfl ?_ | refine W.ite_f rfl ?_ | refine W.need (by decide) ?_ | refine W.ite_f t1 ?_ | refine W.ite_f t2 ?_ | refine W.need ⟨Int.natCast_nonneg _, Int.ofNat_le.2 t3⟩ ?_ | refine W.pure kT rfl rfl ?_ | refine W.pure kR rfl rfl ?_ | refine W.pure kS rfl rfl ?_)
            refine W.ret ⟨_, _, _, ?_, Trim.of [0, 3, 4, 5, 6, 7, 8] [0, 1, 2, 3, 4] (by decide) (by show ∀ i ∈ [0, 1, 2, 3, 4], i < 7; simp) keep5, i + 1, E, X, M, N, P, Q, C, D, ?_, rfl, by omega, ⟨h2, h3, be.next, hb, by omega, by omega, by omega, by omega⟩, rfl⟩
            · omega
            · rw [← g4]; rfl
        | true =>
          simp only [if_true] at h2
          repeat (first | refine W.ite_t rfl ?_ | refine W.ite_f rfl ?_ | refine W.need (by decide) ?_ | refine W.need hix ?_)
          refine W.ld hel ?_
          refine W.callT [0] kp (by decide) rfl rfl rfl rfl ?_
          rintro w σ ⟨rfl, rfl⟩
          repeat (first | refine W.ite_t rfl ?_ | refine W.ite_f rfl ?_ | refine W.need (by decide) ?_ | refine W.need hix ?_)
          refine W.ld hel ?_
          refine W.both ?_ ?_
          · skip
            repeat (first | refine W.ite_t rfl ?_ | refine W.ite_f rfl ?_ | refine W.need (by decide) ?_ | refine W.pure kq rfl rfl ?_ | refine W.pure kO rfl rfl ?_ | refine W.ite_f hvv ?_)
            refine W.need ⟨rfl, rfl, by rw [sl_len]; simp, by omega, by omega, flat_one sC_one D⟩ ?_
            refine W.alt_l ?_
            refine W.need ⟨rfl, rfl, rfl, by omega, by omega, by intro c hc; obtain rfl := List.mem_singleton.1 hc; rfl⟩ ?_
            repeat (first | refine W.ite_t rfl ?_ | refine W.ite_f rfl ?_ | refine W.need (by decide) ?_)
            have hT := Half.tail h2
            obtain ⟨t1, t2, t3, t4⟩ := hT
            have el : (D ++ [v]).length = 0 + D.length + 1 := by simp
            have kS : Go.Am.Pure Tryd.prog 12 [.d (Go.Am.D.sl (0 + D.length + 1) ((([] ++ flat sC D) ++ [sD v]).take ((0 + D.length + 1) * 1))), .d (.sl (0 + D.length + 1) ((flat sC P).take ((0 + D.length + 1) * 1)))] (bI true) := by
              have e : Go.Am.D.sl (0 + D.length + 1) ((([] ++ flat sC D) ++ [sD v]).take ((0 + D.length + 1) * 1)) = .sl (D ++ [v]).length (flat sC (D ++ [v])) := snoc2 D [v]
              rw [e, ← el, flat_take sC_len, t4]; exact ok12 (D ++ [v]) (by rw [el]; omega)
            rw [el] at t1 t2 t3
            have kT := ok16 X
            have kR := ok15 X hXok
            repeat (first | refine W.ite_t rfl ?_ | refine W.ite_f rfl ?_ | refine W.need (by decide) ?_ | refine W.ite_f t1 ?_ | refine W.ite_f t2 ?_ | refine W.need ⟨Int.natCast_nonneg _, Int.ofNat_le.2 t3⟩ ?_ | refine W.pure kT rfl rfl ?_ | refine W.pure kR rfl rfl ?_)
            refine W.callT [] kS (by decide) rfl rfl rfl rfl ?_
            rintro w σ ⟨rfl, rfl⟩
            repeat (first | refine W.ite_t rfl ?_ | refine W.ite_f rfl ?_ | refine W.need (by decide) ?_ | refine W.ite_f t1 ?_ | refine W.ite_f t2 ?_ | refine W.need ⟨Int.natCast_nonneg _, Int.ofNat_le.2 t3⟩ ?_ | refine W.pure kT rfl rfl ?_ | refine W.pure kR rfl rfl ?_)
            refine W.ret ⟨_, _, _, ?_, Trim.of [0, 3, 4, 5, 6, 7, 8] [0, 1, 2, 3, 4] (by decide) (fun j hj => Nat.lt_of_lt_of_le (show j < 5 by simp at hj; omega) (Nat.le_add_left _ _)) keep5, i + 1, E, X, M, N, P, Q, C, (D ++ [v]), ?_, ?_, by omega, ⟨h2, h3, be.next, hb, by omega, by omega, by omega, by omega⟩, rfl⟩
            · omega
            · rw [← g4]; rfl
            · have e := snoc2 D [v]
              simp only [st5, prL, slS, slF]
              rw [← e]
              rfl
          · skip
            repeat (first | refine W.ite_t rfl ?_ | refine W.ite_f rfl ?_ | refine W.need (by decide) ?_ | refine W.pure kq rfl rfl ?_ | refine W.pure kO rfl rfl ?_ | refine W.ite_f hvv ?_)
            refine W.need ⟨rfl, rfl, by rw [sl_len]; simp, by omega, by omega, flat_one sC_one D⟩ ?_
            refine W.alt_l ?_
            refine W.need ⟨rfl, rfl, rfl, by omega, by omega, by intro c hc; obtain rfl := List.mem_singleton.1 hc; rfl⟩ ?_
            repeat (first | refine W.ite_t rfl ?_ | refine W.ite_f rfl ?_ | refine W.need (by decide) ?_)
            have hT := Half.tail h2
            obtain ⟨t1, t2, t3, t4⟩ := hT
            have el : (D ++ [v]).length = 0 + D.length + 1 := by simp
            have kS : Go.Am.Pure Tryd.prog 12 [.d (Go.Am.D.sl (0 + D.length + 1) ((([] ++ flat sC D) ++ [sD v]).take ((0 + D.length + 1) * 1))), .d (.sl (0 + D.length + 1) ((flat sC P).take ((0 + D.length + 1) * 1)))] (bI true) := by
              have e : Go.Am.D.sl (0 + D.length + 1) ((([] ++ flat sC D) ++ [sD v]).take ((0 + D.length + 1) * 1)) = .sl (D ++ [v]).length (flat sC (D ++ [v])) := snoc2 D [v]
              rw [e, ← el, flat_take sC_len, t4]; exact ok12 (D ++ [v]) (by rw [el]; omega)
            rw [el] at t1 t2 t3
            have kT := ok16 X
            have kR := ok15 X hXok
            repeat (first | refine W.ite_t rfl ?_ | refine W.ite_f rfl ?_ | refine W.need (by decide) ?_ | refine W.ite_f t1 ?_ | refine W.ite_f t2 ?_ | refine W.need ⟨Int.natCast_nonneg _, Int.ofNat_le.2 t3⟩ ?_ | refine W.pure kT rfl rfl ?_ | refine W.pure kR rfl rfl ?_)
            refine W.callT [] kS (by decide) rfl rfl rfl rfl ?_
            rintro w σ ⟨rfl, rfl⟩
            repeat (first | refine W.ite_t rfl ?_ | refine W.ite_f rfl ?_ | refine W.need (by decide) ?_ | refine W.ite_f t1 ?_ | refine W.ite_f t2 ?_ | refine W.need ⟨Int.natCast_nonneg _, Int.ofNat_le.2 t3⟩ ?_ | refine W.pure kT rfl rfl ?_ | refine W.pure kR rfl rfl ?_)
            refine W.ret ⟨_, _, _, ?_, Trim.of [0, 3, 4, 5, 6, 7, 8] [0, 1, 2, 3, 4] (by decide) (fun j hj => Nat.lt_of_lt_of_le (show j < 5 by simp at hj; omega) (Nat.le_add_left _ _)) keep5, i + 1, E, X, M, N, P, Q, C, (D ++ [v]), ?_, ?_, by omega, ⟨h2, h3, be.next, hb, by omega, by omega, by omega, by omega⟩, rfl⟩
            · omega
            · rw [← g4]; rfl
            · have e := snoc2 D [v]
              simp only [st5, prL, slS, slF]
              rw [← e]
              rfl
      have d3 : (a.k == 3) = false := by rw [beq_eq_false_iff_ne]; exact k3
      refine W.ite_f d1 ?_
      refine W.ite_f d2 ?_
      refine W.ite_f d3 ?_
      have hXok := hFok
      have hT := Half.tail ef
      obtain ⟨t1, t2, t3, t4⟩ := hT
      have kT := ok16 F
      have kR := ok15 F hXok
      have kS : Go.Am.Pure Tryd.prog 12 [slS D, .d (.sl (D).length ((flat sC P).take ((D).length * 1)))] (bI true) := by
        rw [flat_take sC_len, t4]; exact ok12 D (by omega)
      repeat (first | refine W.ite_t rfl ?_ | refine W.ite_f rfl ?_ | refine W.need (by decide) ?_ | refine W.ite_f t1 ?_ | refine W.ite_f t2 ?_ | refine W.need ⟨Int.natCast_nonneg _, Int.ofNat_le.2 t3⟩ ?_ | refine W.pure kT rfl rfl ?_ | refine W.pure kR rfl rfl ?_ | refine W.pure kS rfl rfl ?_)
      refine W.ret ⟨_, _, _, ?_, Trim.of [0, 3, 4, 5, 6, 7, 8] [0, 1, 2, 3, 4] (by decide) (by show ∀ i ∈ [0, 1, 2, 3, 4], i < 6; simp) keep5, i + 1, E, F, M, N, P, Q, C, D, ?_, rfl, by omega, ⟨ef, fe, be.next, bf.next, by omega, by omega, by omega, by omega⟩, rfl⟩
      · omega
      · rw [← g4]; rfl
  · have split2 : (decide ((i : Int) < (A.length : Int)) = false) ∨ (decide ((i : Int) < (A.length : Int)) = true ∧ decide ((i : Int) < 60) = false) := by
      by_cases h : i < A.length
      · exact .inr ⟨decide_eq_true (by omega), decide_eq_false (by omega)⟩
      · exact .inl (decide_eq_false (by omega))
    rcases split2 with c1 | ⟨c1, c2⟩
    · repeat (first | refine W.ite_t rfl ?_ | refine W.ite_f rfl ?_ | refine W.ite_f c1 ?_)
      exact W.ret (W.ret (RetQ.pure rfl rfl))
    · repeat (first | refine W.ite_t rfl ?_ | refine W.ite_f rfl ?_ | refine W.ite_t c1 ?_ | refine W.ite_f c2 ?_)
      exact W.ret (W.ret (RetQ.pure rfl rfl))
end Go.Proofs.YtpemfjnjkjckoaaDoor.Lk
